import Derived.Test.YtacabmodmbcldaaDoorWT
import Derived.KernelRfl
set_option linter.unusedVariables false
namespace Go.Abs.T
set_option maxRecDepth 100000
theorem table_ok : ∀ f kf, table f = some kf → kf.ok = true := by
  intro f kf h
  unfold table at h
  split at h <;> first | (cases h; done) | (cases h; kernel_rfl)
theorem LW : KLaws (oldT table) iterW glob (callW (oldT table) glob) (sysW table glob).pcall (sysW table glob).fcall (sysW table glob).kcall (List.length) (fun xs i => xs[i]?) (fun xs lo hi => (xs.take hi).drop lo) (fun xs ys => xs ++ ys) (fun xs i x => xs.set i x) (fun n x => List.replicate n x) (allSz) (List.length) (fun s i => s[i]?) (fun s lo hi => (s.take hi).drop lo) (fun a b => a ++ b) (fun a b => a == b) (fun a b => Op.bytesLess a b) (fun s => s.map fun b => .int .u8 b.toNat) (bytesOf) (fun s i => Utf8.decode ⟨⟨s⟩⟩ i) (fun n => (Utf8.encode n).data.toList) (intAr) (intCmp) (fun k n => k.wrap n) (fun n => decide (n = 0)) (fun n => decide (n < 0)) (fun n => n.toNat) (fun (n : Nat) => (n : Int)) (fun (b : UInt8) => (b.toNat : Int)) (fun a b => decide (a ≤ b)) (fun a b => a + b) (fun a b => a - b) (fun n b => decide (n * b ≤ room ∧ n ≤ room)) (findE) (Go.Abs.putE) (Go.Abs.findK) (List.length) (frzMap) (atW table glob) setO (fun s => topN s + 1) sameStk (fun {_} e l => List.map e l) (fun {_} e l => mapE e l) Pr.quo Pr.shf Pr.slen Pr.sidx Pr.ssub Pr.scat Pr.sit Pr.slist Pr.ofBytes @Pr.len @Pr.idx @Pr.sub @Pr.app @Pr.set @Pr.make @Pr.mfind @Pr.mput @Pr.loop table := KLaws.real (G := glob) table_ok
def E_api_Step : S_api_Step → D := fun ⟨x_0, x_1, x_2⟩ => (.agg [(.str x_0), (.int .i64 x_1), (.bool x_2)])
theorem he_E_api_Step (x_0 : Str) (x_1 : Int) (x_2 : Bool) : E_api_Step ⟨x_0, x_1, x_2⟩ = (.agg [(.str x_0), (.int .i64 x_1), (.bool x_2)]) := rfl
theorem hz_E_api_Step (l : List S_api_Step) : allSz 3 (l.map E_api_Step) = true := LW.allsz E_api_Step 3 (fun a => ⟨rfl, rfl⟩) l
mutual
def E_api_Value : S_api_Value → D
  | ⟨x_0, x_1, x_2, x_3, x_4⟩ => (.agg [(.int .i64 x_0), (.int .i64 x_1), (.str x_2), (.sl (E_api_Value_l x_3)), (.sl (E_api_Pair_l x_4))])
def E_api_Value_l : List S_api_Value → List D
  | [] => []
  | x :: r => E_api_Value x :: E_api_Value_l r
def E_api_Pair : S_api_Pair → D
  | ⟨x_0, ⟨x_1_0, x_1_1, x_1_2, x_1_3, x_1_4⟩⟩ => (.agg [(.str x_0), (.int .i64 x_1_0), (.int .i64 x_1_1), (.str x_1_2), (.sl (E_api_Value_l x_1_3)), (.sl (E_api_Pair_l x_1_4))])
def E_api_Pair_l : List S_api_Pair → List D
  | [] => []
  | x :: r => E_api_Pair x :: E_api_Pair_l r
end
theorem E_api_Value_map : ∀ l, E_api_Value_l l = l.map E_api_Value
  | [] => by simp only [E_api_Value_l, List.map_nil]
  | x :: r => by simp only [E_api_Value_l, List.map_cons, E_api_Value_map r]
theorem E_api_Pair_map : ∀ l, E_api_Pair_l l = l.map E_api_Pair
  | [] => by simp only [E_api_Pair_l, List.map_nil]
  | x :: r => by simp only [E_api_Pair_l, List.map_cons, E_api_Pair_map r]
theorem he_E_api_Value (x_0 : Int) (x_1 : Int) (x_2 : Str) (x_3 : (List S_api_Value)) (x_4 : (List S_api_Pair)) : E_api_Value ⟨x_0, x_1, x_2, x_3, x_4⟩ = (.agg [(.int .i64 x_0), (.int .i64 x_1), (.str x_2), (.sl (List.map E_api_Value x_3)), (.sl (List.map E_api_Pair x_4))]) := by simp only [E_api_Value, E_api_Value_map, E_api_Pair_map]
theorem he_E_api_Pair (x_0 : Str) (x_1_0 : Int) (x_1_1 : Int) (x_1_2 : Str) (x_1_3 : (List S_api_Value)) (x_1_4 : (List S_api_Pair)) : E_api_Pair ⟨x_0, ⟨x_1_0, x_1_1, x_1_2, x_1_3, x_1_4⟩⟩ = (.agg [(.str x_0), (.int .i64 x_1_0), (.int .i64 x_1_1), (.str x_1_2), (.sl (List.map E_api_Value x_1_3)), (.sl (List.map E_api_Pair x_1_4))]) := by simp only [E_api_Pair, E_api_Value_map, E_api_Pair_map]
theorem hz_E_api_Value (l : List S_api_Value) : allSz 5 (l.map E_api_Value) = true := LW.allsz E_api_Value 5 (fun a => by obtain ⟨_, _, _, _, _⟩ := a; rw [he_E_api_Value]; exact ⟨rfl, rfl⟩) l
theorem hz_E_api_Pair (l : List S_api_Pair) : allSz 6 (l.map E_api_Pair) = true := LW.allsz E_api_Pair 6 (fun a => by obtain ⟨_, ⟨_, _, _, _, _⟩⟩ := a; rw [he_E_api_Pair]; exact ⟨rfl, rfl⟩) l
def E_int : Int → D := fun x => (.int .i64 x)
theorem he_E_int (x : Int) : E_int x = (.int .i64 x) := rfl
theorem hz_E_int (l : List Int) : allSz 1 (l.map E_int) = true := LW.allsz E_int 1 (fun a => ⟨rfl, rfl⟩) l
noncomputable def p_path_Place_0  (v0 : Int) : Option (S_api_Step) := b_path_Place_0 Prims.real   v0
theorem s_path_Place_0   (m : Nat)    : H_path_Place_0 (atW table glob) m  p_path_Place_0 := by
  intro v0 out hp stk 
  exact o_path_Place_0 (h := LW) (hT := rfl) (hPP := rfl) (he_e_api_Step := he_E_api_Step) (hz_e_api_Step := hz_E_api_Step) (he_e_api_Value := he_E_api_Value) (hz_e_api_Value := hz_E_api_Value) (he_e_api_Pair := he_E_api_Pair) (hz_e_api_Pair := hz_E_api_Pair) (he_e_int := he_E_int) (hz_e_int := hz_E_int)     stk m    v0  hp
noncomputable def p_path_Place : Int → Option (S_api_Step) := fun v0 => p_path_Place_0  v0
theorem s_path_Place : (C_path_Place (sysW table glob).pcall (sysW table glob).fcall p_path_Place) := by
  intro _ _ _ _ hp stk    
  exact pf_of (T := table) (G := glob) (f := 29) rfl rfl (s_path_Place_0   (topN stk + 1)    hp stk )
theorem s_unicode_utf8_DecodeRuneInString : (C_unicode_utf8_DecodeRuneInString (sysW table glob).pcall (sysW table glob).fcall p_unicode_utf8_DecodeRuneInString) := by
  intro _ _ _ hp stk
  exact ⟨pcall_ext (T := table) (G := glob) (f := 136) (e := ext_unicode_utf8_DecodeRuneInString) rfl rfl (x_unicode_utf8_DecodeRuneInString hp) stk, fcall_ext (T := table) (G := glob) (f := 136) (e := ext_unicode_utf8_DecodeRuneInString) rfl rfl (x_unicode_utf8_DecodeRuneInString hp) stk⟩
noncomputable def p_text_Bad_1  (v0 : Str) (o8_s : Str) (o8_p : Nat) : Option (Int) := Prims.real.loop (fun (s : Str × Str × Nat) => match s with | (v0, o8_s, o8_p) => b_text_Bad_1 Prims.real p_unicode_utf8_DecodeRuneInString  v0 o8_s o8_p) (v0, o8_s, o8_p)
theorem u_text_Bad_1  (v0 : Str) (o8_s : Str) (o8_p : Nat) : p_text_Bad_1  v0 o8_s o8_p = match b_text_Bad_1 Prims.real p_unicode_utf8_DecodeRuneInString  v0 o8_s o8_p with
    | some (.inl (v0', o8_s', o8_p')) => p_text_Bad_1  v0' o8_s' o8_p'
    | some (.inr r) => some r
    | none => none := by
  show Pr.loop _ _ = _
  rw [Pr.loop_eq]
  try dsimp only
  generalize b_text_Bad_1 Prims.real p_unicode_utf8_DecodeRuneInString  v0 o8_s o8_p = y
  cases y with
  | none => rfl
  | some y => cases y <;> rfl
theorem s_text_Bad_1   (m : Nat)    : H_text_Bad_1 (atW table glob) m  p_text_Bad_1 := by
  intro v0 o8_s o8_p out hp stk 
  refine LW.ind (fun (s : Str × Str × Nat) => match s with | (v0, o8_s, o8_p) => b_text_Bad_1 Prims.real p_unicode_utf8_DecodeRuneInString  v0 o8_s o8_p) (fun (s : Str × Str × Nat) o => match s with | (v0, o8_s, o8_p) => ∀ (stk : Stk), (A_text_Bad_1 (atW table glob) m  v0 o8_s o8_p stk) = (O_text_Bad  m  stk) o) (fun s r e => ?_) (fun s t r e ih => ?_) (v0, o8_s, o8_p) out hp stk 
  · obtain ⟨v0, o8_s, o8_p⟩ := s
    intro stk 
    exact o_text_Bad_1 (h := LW) (hT := rfl) (hPP := rfl) (he_e_api_Step := he_E_api_Step) (hz_e_api_Step := hz_E_api_Step) (he_e_api_Value := he_E_api_Value) (hz_e_api_Value := hz_E_api_Value) (he_e_api_Pair := he_E_api_Pair) (hz_e_api_Pair := hz_E_api_Pair) (he_e_int := he_E_int) (hz_e_int := hz_E_int) (c_unicode_utf8_DecodeRuneInString := p_unicode_utf8_DecodeRuneInString) (h_unicode_utf8_DecodeRuneInString := s_unicode_utf8_DecodeRuneInString)   stk m    v0 o8_s o8_p  e
  · obtain ⟨v0, o8_s, o8_p⟩ := s; obtain ⟨v0', o8_s', o8_p'⟩ := t
    intro stk 
    exact (o_text_Bad_1 (h := LW) (hT := rfl) (hPP := rfl) (he_e_api_Step := he_E_api_Step) (hz_e_api_Step := hz_E_api_Step) (he_e_api_Value := he_E_api_Value) (hz_e_api_Value := hz_E_api_Value) (he_e_api_Pair := he_E_api_Pair) (hz_e_api_Pair := hz_E_api_Pair) (he_e_int := he_E_int) (hz_e_int := hz_E_int) (c_unicode_utf8_DecodeRuneInString := p_unicode_utf8_DecodeRuneInString) (h_unicode_utf8_DecodeRuneInString := s_unicode_utf8_DecodeRuneInString)   stk m    v0 o8_s o8_p  e).trans (ih stk )
noncomputable def p_text_Bad_0  (v0 : Str) : Option (Int) := b_text_Bad_0 Prims.real p_unicode_utf8_DecodeRuneInString p_text_Bad_1 v0
theorem s_text_Bad_0   (m : Nat)    : H_text_Bad_0 (atW table glob) m  p_text_Bad_0 := by
  intro v0 out hp stk 
  exact o_text_Bad_0 (h := LW) (hT := rfl) (hPP := rfl) (he_e_api_Step := he_E_api_Step) (hz_e_api_Step := hz_E_api_Step) (he_e_api_Value := he_E_api_Value) (hz_e_api_Value := hz_E_api_Value) (he_e_api_Pair := he_E_api_Pair) (hz_e_api_Pair := hz_E_api_Pair) (he_e_int := he_E_int) (hz_e_int := hz_E_int) (c_unicode_utf8_DecodeRuneInString := p_unicode_utf8_DecodeRuneInString) (h_unicode_utf8_DecodeRuneInString := s_unicode_utf8_DecodeRuneInString) (l_1 := p_text_Bad_1 ) (h_l_1 := s_text_Bad_1   m   ) stk m    v0  hp
noncomputable def p_text_Bad : Str → Option (Int) := fun v0 => p_text_Bad_0  v0
theorem s_text_Bad : (C_text_Bad (sysW table glob).pcall (sysW table glob).fcall p_text_Bad) := by
  intro _ _ hp stk    
  exact pf_of (T := table) (G := glob) (f := 124) rfl rfl (s_text_Bad_0   (topN stk + 1)    hp stk )
noncomputable def p_text_Right_0  (v0 : Str) : Option (Bool) := b_text_Right_0 Prims.real p_text_Bad  v0
theorem s_text_Right_0   (m : Nat)    : H_text_Right_0 (atW table glob) m  p_text_Right_0 := by
  intro v0 out hp stk 
  exact o_text_Right_0 (h := LW) (hT := rfl) (hPP := rfl) (he_e_api_Step := he_E_api_Step) (hz_e_api_Step := hz_E_api_Step) (he_e_api_Value := he_E_api_Value) (hz_e_api_Value := hz_E_api_Value) (he_e_api_Pair := he_E_api_Pair) (hz_e_api_Pair := hz_E_api_Pair) (he_e_int := he_E_int) (hz_e_int := hz_E_int) (c_text_Bad := p_text_Bad) (h_text_Bad := s_text_Bad)   stk m    v0  hp
noncomputable def p_text_Right : Str → Option (Bool) := fun v0 => p_text_Right_0  v0
theorem s_text_Right : (C_text_Right (sysW table glob).pcall (sysW table glob).fcall p_text_Right) := by
  intro _ _ hp stk    
  exact pf_of (T := table) (G := glob) (f := 93) rfl rfl (s_text_Right_0   (topN stk + 1)    hp stk )
noncomputable def p_path_right_0  (v0_0 : Str) (v0_1 : Int) (v0_2 : Bool) : Option (Bool) := b_path_right_0 Prims.real p_text_Right  v0_0 v0_1 v0_2
theorem s_path_right_0   (m : Nat)    : H_path_right_0 (atW table glob) m  p_path_right_0 := by
  intro v0_0 v0_1 v0_2 out hp stk 
  exact o_path_right_0 (h := LW) (hT := rfl) (hPP := rfl) (he_e_api_Step := he_E_api_Step) (hz_e_api_Step := hz_E_api_Step) (he_e_api_Value := he_E_api_Value) (hz_e_api_Value := hz_E_api_Value) (he_e_api_Pair := he_E_api_Pair) (hz_e_api_Pair := hz_E_api_Pair) (he_e_int := he_E_int) (hz_e_int := hz_E_int) (c_text_Right := p_text_Right) (h_text_Right := s_text_Right)   stk m    v0_0 v0_1 v0_2  hp
noncomputable def p_path_right : S_api_Step → Option (Bool) := fun ⟨v0_0, v0_1, v0_2⟩ => p_path_right_0  v0_0 v0_1 v0_2
theorem s_path_right : (C_path_right (sysW table glob).pcall (sysW table glob).fcall p_path_right) := by
  intro _ _ _ _ hp stk    
  exact pf_of (T := table) (G := glob) (f := 52) rfl rfl (s_path_right_0   (topN stk + 1)    hp stk )
noncomputable def p_path_Right_1_0  (v0_0 : Str) (v0_1 : Int) (v0_2 : Bool) : Option (Bool) := b_path_Right_1_0 Prims.real p_path_right  v0_0 v0_1 v0_2
theorem s_path_Right_1_0   (m : Nat)    : H_path_Right_1_0 (atW table glob) m  p_path_Right_1_0 := by
  intro v0_0 v0_1 v0_2 out hp stk 
  exact o_path_Right_1_0 (h := LW) (hT := rfl) (hPP := rfl) (he_e_api_Step := he_E_api_Step) (hz_e_api_Step := hz_E_api_Step) (he_e_api_Value := he_E_api_Value) (hz_e_api_Value := hz_E_api_Value) (he_e_api_Pair := he_E_api_Pair) (hz_e_api_Pair := hz_E_api_Pair) (he_e_int := he_E_int) (hz_e_int := hz_E_int) (c_path_right := p_path_right) (h_path_right := s_path_right)   stk m    v0_0 v0_1 v0_2  hp
noncomputable def p_path_Right_1 : S_api_Step → Option (Bool) := fun ⟨v0_0, v0_1, v0_2⟩ => p_path_Right_1_0  v0_0 v0_1 v0_2
theorem s_path_Right_1 : (C_path_Right_1 (sysW table glob).pcall (sysW table glob).fcall p_path_Right_1) := by
  intro _ _ _ _ hp stk    
  exact pf_of (T := table) (G := glob) (f := 51) rfl rfl (s_path_Right_1_0   (topN stk + 1)    hp stk )
noncomputable def p_slices_IndexFunc__api_Step_api_Step__0_1  (v0 : (List S_api_Step)) (v7 : Int) (v8 : Int) : Option (Int) := Prims.real.loop (fun (s : (List S_api_Step) × Int × Int) => match s with | (v0, v7, v8) => b_slices_IndexFunc__api_Step_api_Step__0_1 Prims.real p_path_Right_1  v0 v7 v8) (v0, v7, v8)
theorem u_slices_IndexFunc__api_Step_api_Step__0_1  (v0 : (List S_api_Step)) (v7 : Int) (v8 : Int) : p_slices_IndexFunc__api_Step_api_Step__0_1  v0 v7 v8 = match b_slices_IndexFunc__api_Step_api_Step__0_1 Prims.real p_path_Right_1  v0 v7 v8 with
    | some (.inl (v0', v7', v8')) => p_slices_IndexFunc__api_Step_api_Step__0_1  v0' v7' v8'
    | some (.inr r) => some r
    | none => none := by
  show Pr.loop _ _ = _
  rw [Pr.loop_eq]
  try dsimp only
  generalize b_slices_IndexFunc__api_Step_api_Step__0_1 Prims.real p_path_Right_1  v0 v7 v8 = y
  cases y with
  | none => rfl
  | some y => cases y <;> rfl
theorem s_slices_IndexFunc__api_Step_api_Step__0_1   (m : Nat)    : H_slices_IndexFunc__api_Step_api_Step__0_1 (atW table glob) (fun {_} e l => List.map e l) E_api_Step m  p_slices_IndexFunc__api_Step_api_Step__0_1 := by
  intro v0 v7 v8 out hp stk 
  refine LW.ind (fun (s : (List S_api_Step) × Int × Int) => match s with | (v0, v7, v8) => b_slices_IndexFunc__api_Step_api_Step__0_1 Prims.real p_path_Right_1  v0 v7 v8) (fun (s : (List S_api_Step) × Int × Int) o => match s with | (v0, v7, v8) => ∀ (stk : Stk), (A_slices_IndexFunc__api_Step_api_Step__0_1 (atW table glob) (fun {_} e l => List.map e l) E_api_Step m  v0 v7 v8 stk) = (O_slices_IndexFunc__api_Step_api_Step__0  m  stk) o) (fun s r e => ?_) (fun s t r e ih => ?_) (v0, v7, v8) out hp stk 
  · obtain ⟨v0, v7, v8⟩ := s
    intro stk 
    exact o_slices_IndexFunc__api_Step_api_Step__0_1 (h := LW) (hT := rfl) (hPP := rfl) (he_e_api_Step := he_E_api_Step) (hz_e_api_Step := hz_E_api_Step) (he_e_api_Value := he_E_api_Value) (hz_e_api_Value := hz_E_api_Value) (he_e_api_Pair := he_E_api_Pair) (hz_e_api_Pair := hz_E_api_Pair) (he_e_int := he_E_int) (hz_e_int := hz_E_int) (c_path_Right_1 := p_path_Right_1) (h_path_Right_1 := s_path_Right_1)   stk m    v0 v7 v8  e
  · obtain ⟨v0, v7, v8⟩ := s; obtain ⟨v0', v7', v8'⟩ := t
    intro stk 
    exact (o_slices_IndexFunc__api_Step_api_Step__0_1 (h := LW) (hT := rfl) (hPP := rfl) (he_e_api_Step := he_E_api_Step) (hz_e_api_Step := hz_E_api_Step) (he_e_api_Value := he_E_api_Value) (hz_e_api_Value := hz_E_api_Value) (he_e_api_Pair := he_E_api_Pair) (hz_e_api_Pair := hz_E_api_Pair) (he_e_int := he_E_int) (hz_e_int := hz_E_int) (c_path_Right_1 := p_path_Right_1) (h_path_Right_1 := s_path_Right_1)   stk m    v0 v7 v8  e).trans (ih stk )
noncomputable def p_slices_IndexFunc__api_Step_api_Step__0_0  (v0 : (List S_api_Step)) : Option (Int) := b_slices_IndexFunc__api_Step_api_Step__0_0 Prims.real p_path_Right_1 p_slices_IndexFunc__api_Step_api_Step__0_1 v0
theorem s_slices_IndexFunc__api_Step_api_Step__0_0   (m : Nat)    : H_slices_IndexFunc__api_Step_api_Step__0_0 (atW table glob) (fun {_} e l => List.map e l) E_api_Step m  p_slices_IndexFunc__api_Step_api_Step__0_0 := by
  intro v0 out hp stk 
  exact o_slices_IndexFunc__api_Step_api_Step__0_0 (h := LW) (hT := rfl) (hPP := rfl) (he_e_api_Step := he_E_api_Step) (hz_e_api_Step := hz_E_api_Step) (he_e_api_Value := he_E_api_Value) (hz_e_api_Value := hz_E_api_Value) (he_e_api_Pair := he_E_api_Pair) (hz_e_api_Pair := hz_E_api_Pair) (he_e_int := he_E_int) (hz_e_int := hz_E_int) (c_path_Right_1 := p_path_Right_1) (h_path_Right_1 := s_path_Right_1) (l_1 := p_slices_IndexFunc__api_Step_api_Step__0_1 ) (h_l_1 := s_slices_IndexFunc__api_Step_api_Step__0_1   m   ) stk m    v0  hp
noncomputable def p_slices_IndexFunc__api_Step_api_Step__0 : (List S_api_Step) → Option (Int) := fun v0 => p_slices_IndexFunc__api_Step_api_Step__0_0  v0
theorem s_slices_IndexFunc__api_Step_api_Step__0 : (C_slices_IndexFunc__api_Step_api_Step__0 (sysW table glob).pcall (sysW table glob).fcall (fun {_} e l => List.map e l) E_api_Step p_slices_IndexFunc__api_Step_api_Step__0) := by
  intro _ _ hp stk    
  exact pf_of (T := table) (G := glob) (f := 92) rfl rfl (s_slices_IndexFunc__api_Step_api_Step__0_0   (topN stk + 1)    hp stk )
noncomputable def p_slices_ContainsFunc__api_Step_api_Step__0_0  (v0 : (List S_api_Step)) : Option (Bool) := b_slices_ContainsFunc__api_Step_api_Step__0_0 Prims.real p_slices_IndexFunc__api_Step_api_Step__0  v0
theorem s_slices_ContainsFunc__api_Step_api_Step__0_0   (m : Nat)    : H_slices_ContainsFunc__api_Step_api_Step__0_0 (atW table glob) (fun {_} e l => List.map e l) E_api_Step m  p_slices_ContainsFunc__api_Step_api_Step__0_0 := by
  intro v0 out hp stk 
  exact o_slices_ContainsFunc__api_Step_api_Step__0_0 (h := LW) (hT := rfl) (hPP := rfl) (he_e_api_Step := he_E_api_Step) (hz_e_api_Step := hz_E_api_Step) (he_e_api_Value := he_E_api_Value) (hz_e_api_Value := hz_E_api_Value) (he_e_api_Pair := he_E_api_Pair) (hz_e_api_Pair := hz_E_api_Pair) (he_e_int := he_E_int) (hz_e_int := hz_E_int) (c_slices_IndexFunc__api_Step_api_Step__0 := p_slices_IndexFunc__api_Step_api_Step__0) (h_slices_IndexFunc__api_Step_api_Step__0 := s_slices_IndexFunc__api_Step_api_Step__0)   stk m    v0  hp
noncomputable def p_slices_ContainsFunc__api_Step_api_Step__0 : (List S_api_Step) → Option (Bool) := fun v0 => p_slices_ContainsFunc__api_Step_api_Step__0_0  v0
theorem s_slices_ContainsFunc__api_Step_api_Step__0 : (C_slices_ContainsFunc__api_Step_api_Step__0 (sysW table glob).pcall (sysW table glob).fcall (fun {_} e l => List.map e l) E_api_Step p_slices_ContainsFunc__api_Step_api_Step__0) := by
  intro _ _ hp stk    
  exact pf_of (T := table) (G := glob) (f := 50) rfl rfl (s_slices_ContainsFunc__api_Step_api_Step__0_0   (topN stk + 1)    hp stk )
noncomputable def p_path_Right_0  (v0 : (List S_api_Step)) : Option (Bool) := b_path_Right_0 Prims.real p_slices_ContainsFunc__api_Step_api_Step__0  v0
theorem s_path_Right_0   (m : Nat)    : H_path_Right_0 (atW table glob) (fun {_} e l => List.map e l) E_api_Step m  p_path_Right_0 := by
  intro v0 out hp stk 
  exact o_path_Right_0 (h := LW) (hT := rfl) (hPP := rfl) (he_e_api_Step := he_E_api_Step) (hz_e_api_Step := hz_E_api_Step) (he_e_api_Value := he_E_api_Value) (hz_e_api_Value := hz_E_api_Value) (he_e_api_Pair := he_E_api_Pair) (hz_e_api_Pair := hz_E_api_Pair) (he_e_int := he_E_int) (hz_e_int := hz_E_int) (c_slices_ContainsFunc__api_Step_api_Step__0 := p_slices_ContainsFunc__api_Step_api_Step__0) (h_slices_ContainsFunc__api_Step_api_Step__0 := s_slices_ContainsFunc__api_Step_api_Step__0)   stk m    v0  hp
noncomputable def p_path_Right : (List S_api_Step) → Option (Bool) := fun v0 => p_path_Right_0  v0
theorem s_path_Right : (C_path_Right (sysW table glob).pcall (sysW table glob).fcall (fun {_} e l => List.map e l) E_api_Step p_path_Right) := by
  intro _ _ hp stk    
  exact pf_of (T := table) (G := glob) (f := 19) rfl rfl (s_path_Right_0   (topN stk + 1)    hp stk )
noncomputable def p_path_Value_4  (v12 : (List S_api_Step)) (v13 : Int) (v14 : Int) (o2_0 : Int) (o2_1 : Int) (o2_2 : Str) (o2_3 : (List S_api_Value)) (o2_4 : (List S_api_Pair)) (o4_0 : Int) (o4_1 : Int) (o4_2 : Str) (o4_3_g : Nat) (o4_3 : (List S_api_Value)) (o4_4 : (List S_api_Pair)) : Option (((List S_api_Step) × Int × Int × Int × Int × Str × (List S_api_Value) × (List S_api_Pair) × Int × Int × Str × Nat × (List S_api_Value) × (List S_api_Pair)) ⊕ (S_api_Value × Int)) := b_path_Value_4 Prims.real p_path_Right  v12 v13 v14 o2_0 o2_1 o2_2 o2_3 o2_4 o4_0 o4_1 o4_2 o4_3_g o4_3 o4_4
theorem s_path_Value_4   (m : Nat)    : H_path_Value_4 (atW table glob) (fun {_} e l => List.map e l) List.length E_api_Step E_api_Value E_api_Pair m  p_path_Value_4 := by
  intro v12 v13 v14 o2_0 o2_1 o2_2 o2_3 o2_4 o4_0 o4_1 o4_2 o4_3_g o4_3 o4_4 out hp stk 
  exact o_path_Value_4 (h := LW) (hT := rfl) (hPP := rfl) (he_e_api_Step := he_E_api_Step) (hz_e_api_Step := hz_E_api_Step) (he_e_api_Value := he_E_api_Value) (hz_e_api_Value := hz_E_api_Value) (he_e_api_Pair := he_E_api_Pair) (hz_e_api_Pair := hz_E_api_Pair) (he_e_int := he_E_int) (hz_e_int := hz_E_int) (c_path_Right := p_path_Right) (h_path_Right := s_path_Right)   stk m    v12 v13 v14 o2_0 o2_1 o2_2 o2_3 o2_4 o4_0 o4_1 o4_2 o4_3_g o4_3 o4_4  hp
noncomputable def p_path_Value_2  (v12 : (List S_api_Step)) (v13 : Int) (v14 : Int) (o2_0 : Int) (o2_1 : Int) (o2_2 : Str) (o2_3 : (List S_api_Value)) (o2_4 : (List S_api_Pair)) (o4_0 : Int) (o4_1 : Int) (o4_2 : Str) (o4_3_g : Nat) (o4_3 : (List S_api_Value)) (o4_4 : (List S_api_Pair)) : Option (S_api_Value × Int) := Prims.real.loop (fun (s : (List S_api_Step) × Int × Int × Int × Int × Str × (List S_api_Value) × (List S_api_Pair) × Int × Int × Str × Nat × (List S_api_Value) × (List S_api_Pair)) => match s with | (v12, v13, v14, o2_0, o2_1, o2_2, o2_3, o2_4, o4_0, o4_1, o4_2, o4_3_g, o4_3, o4_4) => b_path_Value_2 Prims.real p_path_Right p_path_Value_4 v12 v13 v14 o2_0 o2_1 o2_2 o2_3 o2_4 o4_0 o4_1 o4_2 o4_3_g o4_3 o4_4) (v12, v13, v14, o2_0, o2_1, o2_2, o2_3, o2_4, o4_0, o4_1, o4_2, o4_3_g, o4_3, o4_4)
theorem u_path_Value_2  (v12 : (List S_api_Step)) (v13 : Int) (v14 : Int) (o2_0 : Int) (o2_1 : Int) (o2_2 : Str) (o2_3 : (List S_api_Value)) (o2_4 : (List S_api_Pair)) (o4_0 : Int) (o4_1 : Int) (o4_2 : Str) (o4_3_g : Nat) (o4_3 : (List S_api_Value)) (o4_4 : (List S_api_Pair)) : p_path_Value_2  v12 v13 v14 o2_0 o2_1 o2_2 o2_3 o2_4 o4_0 o4_1 o4_2 o4_3_g o4_3 o4_4 = match b_path_Value_2 Prims.real p_path_Right p_path_Value_4 v12 v13 v14 o2_0 o2_1 o2_2 o2_3 o2_4 o4_0 o4_1 o4_2 o4_3_g o4_3 o4_4 with
    | some (.inl (v12', v13', v14', o2_0', o2_1', o2_2', o2_3', o2_4', o4_0', o4_1', o4_2', o4_3_g', o4_3', o4_4')) => p_path_Value_2  v12' v13' v14' o2_0' o2_1' o2_2' o2_3' o2_4' o4_0' o4_1' o4_2' o4_3_g' o4_3' o4_4'
    | some (.inr r) => some r
    | none => none := by
  show Pr.loop _ _ = _
  rw [Pr.loop_eq]
  try dsimp only
  generalize b_path_Value_2 Prims.real p_path_Right p_path_Value_4 v12 v13 v14 o2_0 o2_1 o2_2 o2_3 o2_4 o4_0 o4_1 o4_2 o4_3_g o4_3 o4_4 = y
  cases y with
  | none => rfl
  | some y => cases y <;> rfl
theorem s_path_Value_2   (m : Nat)    : H_path_Value_2 (atW table glob) (fun {_} e l => List.map e l) List.length E_api_Step E_api_Value E_api_Pair m  p_path_Value_2 := by
  intro v12 v13 v14 o2_0 o2_1 o2_2 o2_3 o2_4 o4_0 o4_1 o4_2 o4_3_g o4_3 o4_4 out hp stk 
  refine LW.ind (fun (s : (List S_api_Step) × Int × Int × Int × Int × Str × (List S_api_Value) × (List S_api_Pair) × Int × Int × Str × Nat × (List S_api_Value) × (List S_api_Pair)) => match s with | (v12, v13, v14, o2_0, o2_1, o2_2, o2_3, o2_4, o4_0, o4_1, o4_2, o4_3_g, o4_3, o4_4) => b_path_Value_2 Prims.real p_path_Right p_path_Value_4 v12 v13 v14 o2_0 o2_1 o2_2 o2_3 o2_4 o4_0 o4_1 o4_2 o4_3_g o4_3 o4_4) (fun (s : (List S_api_Step) × Int × Int × Int × Int × Str × (List S_api_Value) × (List S_api_Pair) × Int × Int × Str × Nat × (List S_api_Value) × (List S_api_Pair)) o => match s with | (v12, v13, v14, o2_0, o2_1, o2_2, o2_3, o2_4, o4_0, o4_1, o4_2, o4_3_g, o4_3, o4_4) => ∀ (stk : Stk), (A_path_Value_2 (atW table glob) (fun {_} e l => List.map e l) List.length E_api_Step E_api_Value E_api_Pair m  v12 v13 v14 o2_0 o2_1 o2_2 o2_3 o2_4 o4_0 o4_1 o4_2 o4_3_g o4_3 o4_4 stk) = (O_path_Value (fun {_} e l => List.map e l) E_api_Value E_api_Pair m  stk) o) (fun s r e => ?_) (fun s t r e ih => ?_) (v12, v13, v14, o2_0, o2_1, o2_2, o2_3, o2_4, o4_0, o4_1, o4_2, o4_3_g, o4_3, o4_4) out hp stk 
  · obtain ⟨v12, v13, v14, o2_0, o2_1, o2_2, o2_3, o2_4, o4_0, o4_1, o4_2, o4_3_g, o4_3, o4_4⟩ := s
    intro stk 
    exact o_path_Value_2 (h := LW) (hT := rfl) (hPP := rfl) (he_e_api_Step := he_E_api_Step) (hz_e_api_Step := hz_E_api_Step) (he_e_api_Value := he_E_api_Value) (hz_e_api_Value := hz_E_api_Value) (he_e_api_Pair := he_E_api_Pair) (hz_e_api_Pair := hz_E_api_Pair) (he_e_int := he_E_int) (hz_e_int := hz_E_int) (c_path_Right := p_path_Right) (h_path_Right := s_path_Right) (l_4 := p_path_Value_4 ) (h_l_4 := s_path_Value_4   m   ) stk m    v12 v13 v14 o2_0 o2_1 o2_2 o2_3 o2_4 o4_0 o4_1 o4_2 o4_3_g o4_3 o4_4  e
  · obtain ⟨v12, v13, v14, o2_0, o2_1, o2_2, o2_3, o2_4, o4_0, o4_1, o4_2, o4_3_g, o4_3, o4_4⟩ := s; obtain ⟨v12', v13', v14', o2_0', o2_1', o2_2', o2_3', o2_4', o4_0', o4_1', o4_2', o4_3_g', o4_3', o4_4'⟩ := t
    intro stk 
    exact (o_path_Value_2 (h := LW) (hT := rfl) (hPP := rfl) (he_e_api_Step := he_E_api_Step) (hz_e_api_Step := hz_E_api_Step) (he_e_api_Value := he_E_api_Value) (hz_e_api_Value := hz_E_api_Value) (he_e_api_Pair := he_E_api_Pair) (hz_e_api_Pair := hz_E_api_Pair) (he_e_int := he_E_int) (hz_e_int := hz_E_int) (c_path_Right := p_path_Right) (h_path_Right := s_path_Right) (l_4 := p_path_Value_4 ) (h_l_4 := s_path_Value_4   m   ) stk m    v12 v13 v14 o2_0 o2_1 o2_2 o2_3 o2_4 o4_0 o4_1 o4_2 o4_3_g o4_3 o4_4  e).trans (ih stk )
noncomputable def p_path_Value_0  (v0 : (List S_api_Step)) : Option (S_api_Value × Int) := b_path_Value_0 Prims.real p_path_Right p_path_Value_2 v0
theorem s_path_Value_0   (m : Nat)    : H_path_Value_0 (atW table glob) (fun {_} e l => List.map e l) E_api_Step E_api_Value E_api_Pair m  p_path_Value_0 := by
  intro v0 out hp stk 
  exact o_path_Value_0 (h := LW) (hT := rfl) (hPP := rfl) (he_e_api_Step := he_E_api_Step) (hz_e_api_Step := hz_E_api_Step) (he_e_api_Value := he_E_api_Value) (hz_e_api_Value := hz_E_api_Value) (he_e_api_Pair := he_E_api_Pair) (hz_e_api_Pair := hz_E_api_Pair) (he_e_int := he_E_int) (hz_e_int := hz_E_int) (c_path_Right := p_path_Right) (h_path_Right := s_path_Right) (l_2 := p_path_Value_2 ) (h_l_2 := s_path_Value_2   m   ) stk m    v0  hp
noncomputable def p_path_Value : (List S_api_Step) → Option (S_api_Value × Int) := fun v0 => p_path_Value_0  v0
theorem s_path_Value : (C_path_Value (sysW table glob).pcall (sysW table glob).fcall (fun {_} e l => List.map e l) E_api_Step E_api_Value E_api_Pair p_path_Value) := by
  intro _ _ _ _ _ _ _ hp stk    
  exact pf_of (T := table) (G := glob) (f := 18) rfl rfl (s_path_Value_0   (topN stk + 1)    hp stk )
noncomputable def p_cascadelaw06_awake_0   : Option (Bool) := b_cascadelaw06_awake_0 Prims.real p_path_Place p_path_Value  
theorem s_cascadelaw06_awake_0   (m : Nat)    : H_cascadelaw06_awake_0 (atW table glob) m  p_cascadelaw06_awake_0 := by
  intro  out hp stk 
  exact o_cascadelaw06_awake_0 (h := LW) (hT := rfl) (hPP := rfl) (he_e_api_Step := he_E_api_Step) (hz_e_api_Step := hz_E_api_Step) (he_e_api_Value := he_E_api_Value) (hz_e_api_Value := hz_E_api_Value) (he_e_api_Pair := he_E_api_Pair) (hz_e_api_Pair := hz_E_api_Pair) (he_e_int := he_E_int) (hz_e_int := hz_E_int) (c_path_Place := p_path_Place) (c_path_Value := p_path_Value) (h_path_Place := s_path_Place) (h_path_Value := s_path_Value)   stk m      hp
noncomputable def p_cascadelaw06_awake : Option (Bool) := p_cascadelaw06_awake_0 
theorem s_cascadelaw06_awake : (C_cascadelaw06_awake (sysW table glob).pcall (sysW table glob).fcall p_cascadelaw06_awake) := by
  intro _ hp stk    
  exact pf_of (T := table) (G := glob) (f := 15) rfl rfl (s_cascadelaw06_awake_0   (topN stk + 1)    hp stk )
noncomputable def p_cascaderef06_Few_4  (v0 : (List S_api_Step)) : Option (Bool) := b_cascaderef06_Few_4 Prims.real   v0
theorem s_cascaderef06_Few_4   (m : Nat)    : H_cascaderef06_Few_4 (atW table glob) (fun {_} e l => List.map e l) E_api_Step m  p_cascaderef06_Few_4 := by
  intro v0 out hp stk 
  exact o_cascaderef06_Few_4 (h := LW) (hT := rfl) (hPP := rfl) (he_e_api_Step := he_E_api_Step) (hz_e_api_Step := hz_E_api_Step) (he_e_api_Value := he_E_api_Value) (hz_e_api_Value := hz_E_api_Value) (he_e_api_Pair := he_E_api_Pair) (hz_e_api_Pair := hz_E_api_Pair) (he_e_int := he_E_int) (hz_e_int := hz_E_int)     stk m    v0  hp
noncomputable def p_cascaderef06_Few_1  (v0 : (List S_api_Step)) (v3 : Int) : Option (Bool) := Prims.real.loop (fun (s : (List S_api_Step) × Int) => match s with | (v0, v3) => b_cascaderef06_Few_1 Prims.real  p_cascaderef06_Few_4 v0 v3) (v0, v3)
theorem u_cascaderef06_Few_1  (v0 : (List S_api_Step)) (v3 : Int) : p_cascaderef06_Few_1  v0 v3 = match b_cascaderef06_Few_1 Prims.real  p_cascaderef06_Few_4 v0 v3 with
    | some (.inl (v0', v3')) => p_cascaderef06_Few_1  v0' v3'
    | some (.inr r) => some r
    | none => none := by
  show Pr.loop _ _ = _
  rw [Pr.loop_eq]
  try dsimp only
  generalize b_cascaderef06_Few_1 Prims.real  p_cascaderef06_Few_4 v0 v3 = y
  cases y with
  | none => rfl
  | some y => cases y <;> rfl
theorem s_cascaderef06_Few_1   (m : Nat)    : H_cascaderef06_Few_1 (atW table glob) (fun {_} e l => List.map e l) E_api_Step m  p_cascaderef06_Few_1 := by
  intro v0 v3 out hp stk 
  refine LW.ind (fun (s : (List S_api_Step) × Int) => match s with | (v0, v3) => b_cascaderef06_Few_1 Prims.real  p_cascaderef06_Few_4 v0 v3) (fun (s : (List S_api_Step) × Int) o => match s with | (v0, v3) => ∀ (stk : Stk), (A_cascaderef06_Few_1 (atW table glob) (fun {_} e l => List.map e l) E_api_Step m  v0 v3 stk) = (O_cascaderef06_Few  m  stk) o) (fun s r e => ?_) (fun s t r e ih => ?_) (v0, v3) out hp stk 
  · obtain ⟨v0, v3⟩ := s
    intro stk 
    exact o_cascaderef06_Few_1 (h := LW) (hT := rfl) (hPP := rfl) (he_e_api_Step := he_E_api_Step) (hz_e_api_Step := hz_E_api_Step) (he_e_api_Value := he_E_api_Value) (hz_e_api_Value := hz_E_api_Value) (he_e_api_Pair := he_E_api_Pair) (hz_e_api_Pair := hz_E_api_Pair) (he_e_int := he_E_int) (hz_e_int := hz_E_int)   (l_4 := p_cascaderef06_Few_4 ) (h_l_4 := s_cascaderef06_Few_4   m   ) stk m    v0 v3  e
  · obtain ⟨v0, v3⟩ := s; obtain ⟨v0', v3'⟩ := t
    intro stk 
    exact (o_cascaderef06_Few_1 (h := LW) (hT := rfl) (hPP := rfl) (he_e_api_Step := he_E_api_Step) (hz_e_api_Step := hz_E_api_Step) (he_e_api_Value := he_E_api_Value) (hz_e_api_Value := hz_E_api_Value) (he_e_api_Pair := he_E_api_Pair) (hz_e_api_Pair := hz_E_api_Pair) (he_e_int := he_E_int) (hz_e_int := hz_E_int)   (l_4 := p_cascaderef06_Few_4 ) (h_l_4 := s_cascaderef06_Few_4   m   ) stk m    v0 v3  e).trans (ih stk )
noncomputable def p_cascaderef06_Few_0  (v0 : (List S_api_Step)) : Option (Bool) := b_cascaderef06_Few_0 Prims.real  p_cascaderef06_Few_1 v0
theorem s_cascaderef06_Few_0   (m : Nat)    : H_cascaderef06_Few_0 (atW table glob) (fun {_} e l => List.map e l) E_api_Step m  p_cascaderef06_Few_0 := by
  intro v0 out hp stk 
  exact o_cascaderef06_Few_0 (h := LW) (hT := rfl) (hPP := rfl) (he_e_api_Step := he_E_api_Step) (hz_e_api_Step := hz_E_api_Step) (he_e_api_Value := he_E_api_Value) (hz_e_api_Value := hz_E_api_Value) (he_e_api_Pair := he_E_api_Pair) (hz_e_api_Pair := hz_E_api_Pair) (he_e_int := he_E_int) (hz_e_int := hz_E_int)   (l_1 := p_cascaderef06_Few_1 ) (h_l_1 := s_cascaderef06_Few_1   m   ) stk m    v0  hp
noncomputable def p_cascaderef06_Few : (List S_api_Step) → Option (Bool) := fun v0 => p_cascaderef06_Few_0  v0
theorem s_cascaderef06_Few : (C_cascaderef06_Few (sysW table glob).pcall (sysW table glob).fcall (fun {_} e l => List.map e l) E_api_Step p_cascaderef06_Few) := by
  intro _ _ hp stk    
  exact pf_of (T := table) (G := glob) (f := 16) rfl rfl (s_cascaderef06_Few_0   (topN stk + 1)    hp stk )
noncomputable def p_cmp_isNaN_string_0  (v0 : Str) : Option (Bool) := b_cmp_isNaN_string_0 Prims.real   v0
theorem s_cmp_isNaN_string_0   (m : Nat)    : H_cmp_isNaN_string_0 (atW table glob) m  p_cmp_isNaN_string_0 := by
  intro v0 out hp stk 
  exact o_cmp_isNaN_string_0 (h := LW) (hT := rfl) (hPP := rfl) (he_e_api_Step := he_E_api_Step) (hz_e_api_Step := hz_E_api_Step) (he_e_api_Value := he_E_api_Value) (hz_e_api_Value := hz_E_api_Value) (he_e_api_Pair := he_E_api_Pair) (hz_e_api_Pair := hz_E_api_Pair) (he_e_int := he_E_int) (hz_e_int := hz_E_int)     stk m    v0  hp
noncomputable def p_cmp_isNaN_string : Str → Option (Bool) := fun v0 => p_cmp_isNaN_string_0  v0
theorem s_cmp_isNaN_string : (C_cmp_isNaN_string (sysW table glob).pcall (sysW table glob).fcall p_cmp_isNaN_string) := by
  intro _ _ hp stk    
  exact pf_of (T := table) (G := glob) (f := 125) rfl rfl (s_cmp_isNaN_string_0   (topN stk + 1)    hp stk )
noncomputable def p_cmp_Compare_string_5   : Option (Int) := b_cmp_Compare_string_5 Prims.real p_cmp_isNaN_string  
theorem s_cmp_Compare_string_5   (m : Nat)    : H_cmp_Compare_string_5 (atW table glob) m  p_cmp_Compare_string_5 := by
  intro  out hp stk 
  exact o_cmp_Compare_string_5 (h := LW) (hT := rfl) (hPP := rfl) (he_e_api_Step := he_E_api_Step) (hz_e_api_Step := hz_E_api_Step) (he_e_api_Value := he_E_api_Value) (hz_e_api_Value := hz_E_api_Value) (he_e_api_Pair := he_E_api_Pair) (hz_e_api_Pair := hz_E_api_Pair) (he_e_int := he_E_int) (hz_e_int := hz_E_int) (c_cmp_isNaN_string := p_cmp_isNaN_string) (h_cmp_isNaN_string := s_cmp_isNaN_string)   stk m      hp
noncomputable def p_cmp_Compare_string_0  (v0 : Str) (v1 : Str) : Option (Int) := b_cmp_Compare_string_0 Prims.real p_cmp_isNaN_string p_cmp_Compare_string_5 v0 v1
theorem s_cmp_Compare_string_0   (m : Nat)    : H_cmp_Compare_string_0 (atW table glob) m  p_cmp_Compare_string_0 := by
  intro v0 v1 out hp stk 
  exact o_cmp_Compare_string_0 (h := LW) (hT := rfl) (hPP := rfl) (he_e_api_Step := he_E_api_Step) (hz_e_api_Step := hz_E_api_Step) (he_e_api_Value := he_E_api_Value) (hz_e_api_Value := hz_E_api_Value) (he_e_api_Pair := he_E_api_Pair) (hz_e_api_Pair := hz_E_api_Pair) (he_e_int := he_E_int) (hz_e_int := hz_E_int) (c_cmp_isNaN_string := p_cmp_isNaN_string) (h_cmp_isNaN_string := s_cmp_isNaN_string) (l_5 := p_cmp_Compare_string_5 ) (h_l_5 := s_cmp_Compare_string_5   m   ) stk m    v0 v1  hp
noncomputable def p_cmp_Compare_string : Str → Str → Option (Int) := fun v0 v1 => p_cmp_Compare_string_0  v0 v1
theorem s_cmp_Compare_string : (C_cmp_Compare_string (sysW table glob).pcall (sysW table glob).fcall p_cmp_Compare_string) := by
  intro _ _ _ hp stk    
  exact pf_of (T := table) (G := glob) (f := 100) rfl rfl (s_cmp_Compare_string_0   (topN stk + 1)    hp stk )
noncomputable def p_cmp_isNaN_int_0  (v0 : Int) : Option (Bool) := b_cmp_isNaN_int_0 Prims.real   v0
theorem s_cmp_isNaN_int_0   (m : Nat)    : H_cmp_isNaN_int_0 (atW table glob) m  p_cmp_isNaN_int_0 := by
  intro v0 out hp stk 
  exact o_cmp_isNaN_int_0 (h := LW) (hT := rfl) (hPP := rfl) (he_e_api_Step := he_E_api_Step) (hz_e_api_Step := hz_E_api_Step) (he_e_api_Value := he_E_api_Value) (hz_e_api_Value := hz_E_api_Value) (he_e_api_Pair := he_E_api_Pair) (hz_e_api_Pair := hz_E_api_Pair) (he_e_int := he_E_int) (hz_e_int := hz_E_int)     stk m    v0  hp
noncomputable def p_cmp_isNaN_int : Int → Option (Bool) := fun v0 => p_cmp_isNaN_int_0  v0
theorem s_cmp_isNaN_int : (C_cmp_isNaN_int (sysW table glob).pcall (sysW table glob).fcall p_cmp_isNaN_int) := by
  intro _ _ hp stk    
  exact pf_of (T := table) (G := glob) (f := 126) rfl rfl (s_cmp_isNaN_int_0   (topN stk + 1)    hp stk )
noncomputable def p_cmp_Compare_int_0  (v0 : Int) (v1 : Int) : Option (Int) := b_cmp_Compare_int_0 Prims.real p_cmp_isNaN_int  v0 v1
theorem s_cmp_Compare_int_0   (m : Nat)    : H_cmp_Compare_int_0 (atW table glob) m  p_cmp_Compare_int_0 := by
  intro v0 v1 out hp stk 
  exact o_cmp_Compare_int_0 (h := LW) (hT := rfl) (hPP := rfl) (he_e_api_Step := he_E_api_Step) (hz_e_api_Step := hz_E_api_Step) (he_e_api_Value := he_E_api_Value) (hz_e_api_Value := hz_E_api_Value) (he_e_api_Pair := he_E_api_Pair) (hz_e_api_Pair := hz_E_api_Pair) (he_e_int := he_E_int) (hz_e_int := hz_E_int) (c_cmp_isNaN_int := p_cmp_isNaN_int) (h_cmp_isNaN_int := s_cmp_isNaN_int)   stk m    v0 v1  hp
noncomputable def p_cmp_Compare_int : Int → Int → Option (Int) := fun v0 v1 => p_cmp_Compare_int_0  v0 v1
theorem s_cmp_Compare_int : (C_cmp_Compare_int (sysW table glob).pcall (sysW table glob).fcall p_cmp_Compare_int) := by
  intro _ _ _ hp stk    
  exact pf_of (T := table) (G := glob) (f := 101) rfl rfl (s_cmp_Compare_int_0   (topN stk + 1)    hp stk )
noncomputable def p_cmp_Or_int_1  (v3 : Int) (v6 : (List Int)) (v7 : Int) (v8 : Int) : Option (Int) := Prims.real.loop (fun (s : Int × (List Int) × Int × Int) => match s with | (v3, v6, v7, v8) => b_cmp_Or_int_1 Prims.real   v3 v6 v7 v8) (v3, v6, v7, v8)
theorem u_cmp_Or_int_1  (v3 : Int) (v6 : (List Int)) (v7 : Int) (v8 : Int) : p_cmp_Or_int_1  v3 v6 v7 v8 = match b_cmp_Or_int_1 Prims.real   v3 v6 v7 v8 with
    | some (.inl (v3', v6', v7', v8')) => p_cmp_Or_int_1  v3' v6' v7' v8'
    | some (.inr r) => some r
    | none => none := by
  show Pr.loop _ _ = _
  rw [Pr.loop_eq]
  try dsimp only
  generalize b_cmp_Or_int_1 Prims.real   v3 v6 v7 v8 = y
  cases y with
  | none => rfl
  | some y => cases y <;> rfl
theorem s_cmp_Or_int_1   (m : Nat)    : H_cmp_Or_int_1 (atW table glob) (fun {_} e l => List.map e l) E_int m  p_cmp_Or_int_1 := by
  intro v3 v6 v7 v8 out hp stk 
  refine LW.ind (fun (s : Int × (List Int) × Int × Int) => match s with | (v3, v6, v7, v8) => b_cmp_Or_int_1 Prims.real   v3 v6 v7 v8) (fun (s : Int × (List Int) × Int × Int) o => match s with | (v3, v6, v7, v8) => ∀ (stk : Stk), (A_cmp_Or_int_1 (atW table glob) (fun {_} e l => List.map e l) E_int m  v3 v6 v7 v8 stk) = (O_cmp_Or_int  m  stk) o) (fun s r e => ?_) (fun s t r e ih => ?_) (v3, v6, v7, v8) out hp stk 
  · obtain ⟨v3, v6, v7, v8⟩ := s
    intro stk 
    exact o_cmp_Or_int_1 (h := LW) (hT := rfl) (hPP := rfl) (he_e_api_Step := he_E_api_Step) (hz_e_api_Step := hz_E_api_Step) (he_e_api_Value := he_E_api_Value) (hz_e_api_Value := hz_E_api_Value) (he_e_api_Pair := he_E_api_Pair) (hz_e_api_Pair := hz_E_api_Pair) (he_e_int := he_E_int) (hz_e_int := hz_E_int)     stk m    v3 v6 v7 v8  e
  · obtain ⟨v3, v6, v7, v8⟩ := s; obtain ⟨v3', v6', v7', v8'⟩ := t
    intro stk 
    exact (o_cmp_Or_int_1 (h := LW) (hT := rfl) (hPP := rfl) (he_e_api_Step := he_E_api_Step) (hz_e_api_Step := hz_E_api_Step) (he_e_api_Value := he_E_api_Value) (hz_e_api_Value := hz_E_api_Value) (he_e_api_Pair := he_E_api_Pair) (hz_e_api_Pair := hz_E_api_Pair) (he_e_int := he_E_int) (hz_e_int := hz_E_int)     stk m    v3 v6 v7 v8  e).trans (ih stk )
noncomputable def p_cmp_Or_int_0  (v0 : (List Int)) : Option (Int) := b_cmp_Or_int_0 Prims.real  p_cmp_Or_int_1 v0
theorem s_cmp_Or_int_0   (m : Nat)    : H_cmp_Or_int_0 (atW table glob) (fun {_} e l => List.map e l) E_int m  p_cmp_Or_int_0 := by
  intro v0 out hp stk 
  exact o_cmp_Or_int_0 (h := LW) (hT := rfl) (hPP := rfl) (he_e_api_Step := he_E_api_Step) (hz_e_api_Step := hz_E_api_Step) (he_e_api_Value := he_E_api_Value) (hz_e_api_Value := hz_E_api_Value) (he_e_api_Pair := he_E_api_Pair) (hz_e_api_Pair := hz_E_api_Pair) (he_e_int := he_E_int) (hz_e_int := hz_E_int)   (l_1 := p_cmp_Or_int_1 ) (h_l_1 := s_cmp_Or_int_1   m   ) stk m    v0  hp
noncomputable def p_cmp_Or_int : (List Int) → Option (Int) := fun v0 => p_cmp_Or_int_0  v0
theorem s_cmp_Or_int : (C_cmp_Or_int (sysW table glob).pcall (sysW table glob).fcall (fun {_} e l => List.map e l) E_int p_cmp_Or_int) := by
  intro _ _ hp stk    
  exact pf_of (T := table) (G := glob) (f := 99) rfl rfl (s_cmp_Or_int_0   (topN stk + 1)    hp stk )
noncomputable def p_path_compare_2  (v2_0 : Str) (v2_1 : Int) (v2_2 : Bool) (v3_0 : Str) (v3_1 : Int) (v3_2 : Bool) : Option (Int) := b_path_compare_2 Prims.real p_cmp_Compare_string p_cmp_Compare_int p_cmp_Or_int  v2_0 v2_1 v2_2 v3_0 v3_1 v3_2
theorem s_path_compare_2   (m : Nat)    : H_path_compare_2 (atW table glob) m  p_path_compare_2 := by
  intro v2_0 v2_1 v2_2 v3_0 v3_1 v3_2 out hp stk 
  exact o_path_compare_2 (h := LW) (hT := rfl) (hPP := rfl) (he_e_api_Step := he_E_api_Step) (hz_e_api_Step := hz_E_api_Step) (he_e_api_Value := he_E_api_Value) (hz_e_api_Value := hz_E_api_Value) (he_e_api_Pair := he_E_api_Pair) (hz_e_api_Pair := hz_E_api_Pair) (he_e_int := he_E_int) (hz_e_int := hz_E_int) (c_cmp_Compare_string := p_cmp_Compare_string) (c_cmp_Compare_int := p_cmp_Compare_int) (c_cmp_Or_int := p_cmp_Or_int) (h_cmp_Compare_string := s_cmp_Compare_string) (h_cmp_Compare_int := s_cmp_Compare_int) (h_cmp_Or_int := s_cmp_Or_int)   stk m    v2_0 v2_1 v2_2 v3_0 v3_1 v3_2  hp
noncomputable def p_path_compare_0  (v0_0 : Str) (v0_1 : Int) (v0_2 : Bool) (v1_0 : Str) (v1_1 : Int) (v1_2 : Bool) : Option (Int) := b_path_compare_0 Prims.real p_cmp_Compare_string p_cmp_Compare_int p_cmp_Or_int p_path_compare_2 v0_0 v0_1 v0_2 v1_0 v1_1 v1_2
theorem s_path_compare_0   (m : Nat)    : H_path_compare_0 (atW table glob) m  p_path_compare_0 := by
  intro v0_0 v0_1 v0_2 v1_0 v1_1 v1_2 out hp stk 
  exact o_path_compare_0 (h := LW) (hT := rfl) (hPP := rfl) (he_e_api_Step := he_E_api_Step) (hz_e_api_Step := hz_E_api_Step) (he_e_api_Value := he_E_api_Value) (hz_e_api_Value := hz_E_api_Value) (he_e_api_Pair := he_E_api_Pair) (hz_e_api_Pair := hz_E_api_Pair) (he_e_int := he_E_int) (hz_e_int := hz_E_int) (c_cmp_Compare_string := p_cmp_Compare_string) (c_cmp_Compare_int := p_cmp_Compare_int) (c_cmp_Or_int := p_cmp_Or_int) (h_cmp_Compare_string := s_cmp_Compare_string) (h_cmp_Compare_int := s_cmp_Compare_int) (h_cmp_Or_int := s_cmp_Or_int) (l_2 := p_path_compare_2 ) (h_l_2 := s_path_compare_2   m   ) stk m    v0_0 v0_1 v0_2 v1_0 v1_1 v1_2  hp
noncomputable def p_path_compare : S_api_Step → S_api_Step → Option (Int) := fun ⟨v0_0, v0_1, v0_2⟩ ⟨v1_0, v1_1, v1_2⟩ => p_path_compare_0  v0_0 v0_1 v0_2 v1_0 v1_1 v1_2
theorem s_path_compare : (C_path_compare (sysW table glob).pcall (sysW table glob).fcall p_path_compare) := by
  intro _ _ _ _ _ _ _ hp stk    
  exact pf_of (T := table) (G := glob) (f := 56) rfl rfl (s_path_compare_0   (topN stk + 1)    hp stk )
noncomputable def p_slices_CompareFunc__api_Step__api_Step_api_Step_api_Step__0_1  (v0 : (List S_api_Step)) (v1 : (List S_api_Step)) (v11 : (List S_api_Step)) (v12 : Int) (v13 : Int) : Option (Int) := Prims.real.loop (fun (s : (List S_api_Step) × (List S_api_Step) × (List S_api_Step) × Int × Int) => match s with | (v0, v1, v11, v12, v13) => b_slices_CompareFunc__api_Step__api_Step_api_Step_api_Step__0_1 Prims.real p_path_compare  v0 v1 v11 v12 v13) (v0, v1, v11, v12, v13)
theorem u_slices_CompareFunc__api_Step__api_Step_api_Step_api_Step__0_1  (v0 : (List S_api_Step)) (v1 : (List S_api_Step)) (v11 : (List S_api_Step)) (v12 : Int) (v13 : Int) : p_slices_CompareFunc__api_Step__api_Step_api_Step_api_Step__0_1  v0 v1 v11 v12 v13 = match b_slices_CompareFunc__api_Step__api_Step_api_Step_api_Step__0_1 Prims.real p_path_compare  v0 v1 v11 v12 v13 with
    | some (.inl (v0', v1', v11', v12', v13')) => p_slices_CompareFunc__api_Step__api_Step_api_Step_api_Step__0_1  v0' v1' v11' v12' v13'
    | some (.inr r) => some r
    | none => none := by
  show Pr.loop _ _ = _
  rw [Pr.loop_eq]
  try dsimp only
  generalize b_slices_CompareFunc__api_Step__api_Step_api_Step_api_Step__0_1 Prims.real p_path_compare  v0 v1 v11 v12 v13 = y
  cases y with
  | none => rfl
  | some y => cases y <;> rfl
theorem s_slices_CompareFunc__api_Step__api_Step_api_Step_api_Step__0_1   (m : Nat)    : H_slices_CompareFunc__api_Step__api_Step_api_Step_api_Step__0_1 (atW table glob) (fun {_} e l => List.map e l) E_api_Step m  p_slices_CompareFunc__api_Step__api_Step_api_Step_api_Step__0_1 := by
  intro v0 v1 v11 v12 v13 out hp stk 
  refine LW.ind (fun (s : (List S_api_Step) × (List S_api_Step) × (List S_api_Step) × Int × Int) => match s with | (v0, v1, v11, v12, v13) => b_slices_CompareFunc__api_Step__api_Step_api_Step_api_Step__0_1 Prims.real p_path_compare  v0 v1 v11 v12 v13) (fun (s : (List S_api_Step) × (List S_api_Step) × (List S_api_Step) × Int × Int) o => match s with | (v0, v1, v11, v12, v13) => ∀ (stk : Stk), (A_slices_CompareFunc__api_Step__api_Step_api_Step_api_Step__0_1 (atW table glob) (fun {_} e l => List.map e l) E_api_Step m  v0 v1 v11 v12 v13 stk) = (O_slices_CompareFunc__api_Step__api_Step_api_Step_api_Step__0  m  stk) o) (fun s r e => ?_) (fun s t r e ih => ?_) (v0, v1, v11, v12, v13) out hp stk 
  · obtain ⟨v0, v1, v11, v12, v13⟩ := s
    intro stk 
    exact o_slices_CompareFunc__api_Step__api_Step_api_Step_api_Step__0_1 (h := LW) (hT := rfl) (hPP := rfl) (he_e_api_Step := he_E_api_Step) (hz_e_api_Step := hz_E_api_Step) (he_e_api_Value := he_E_api_Value) (hz_e_api_Value := hz_E_api_Value) (he_e_api_Pair := he_E_api_Pair) (hz_e_api_Pair := hz_E_api_Pair) (he_e_int := he_E_int) (hz_e_int := hz_E_int) (c_path_compare := p_path_compare) (h_path_compare := s_path_compare)   stk m    v0 v1 v11 v12 v13  e
  · obtain ⟨v0, v1, v11, v12, v13⟩ := s; obtain ⟨v0', v1', v11', v12', v13'⟩ := t
    intro stk 
    exact (o_slices_CompareFunc__api_Step__api_Step_api_Step_api_Step__0_1 (h := LW) (hT := rfl) (hPP := rfl) (he_e_api_Step := he_E_api_Step) (hz_e_api_Step := hz_E_api_Step) (he_e_api_Value := he_E_api_Value) (hz_e_api_Value := hz_E_api_Value) (he_e_api_Pair := he_E_api_Pair) (hz_e_api_Pair := hz_E_api_Pair) (he_e_int := he_E_int) (hz_e_int := hz_E_int) (c_path_compare := p_path_compare) (h_path_compare := s_path_compare)   stk m    v0 v1 v11 v12 v13  e).trans (ih stk )
noncomputable def p_slices_CompareFunc__api_Step__api_Step_api_Step_api_Step__0_0  (v0 : (List S_api_Step)) (v1 : (List S_api_Step)) : Option (Int) := b_slices_CompareFunc__api_Step__api_Step_api_Step_api_Step__0_0 Prims.real p_path_compare p_slices_CompareFunc__api_Step__api_Step_api_Step_api_Step__0_1 v0 v1
theorem s_slices_CompareFunc__api_Step__api_Step_api_Step_api_Step__0_0   (m : Nat)    : H_slices_CompareFunc__api_Step__api_Step_api_Step_api_Step__0_0 (atW table glob) (fun {_} e l => List.map e l) E_api_Step m  p_slices_CompareFunc__api_Step__api_Step_api_Step_api_Step__0_0 := by
  intro v0 v1 out hp stk 
  exact o_slices_CompareFunc__api_Step__api_Step_api_Step_api_Step__0_0 (h := LW) (hT := rfl) (hPP := rfl) (he_e_api_Step := he_E_api_Step) (hz_e_api_Step := hz_E_api_Step) (he_e_api_Value := he_E_api_Value) (hz_e_api_Value := hz_E_api_Value) (he_e_api_Pair := he_E_api_Pair) (hz_e_api_Pair := hz_E_api_Pair) (he_e_int := he_E_int) (hz_e_int := hz_E_int) (c_path_compare := p_path_compare) (h_path_compare := s_path_compare) (l_1 := p_slices_CompareFunc__api_Step__api_Step_api_Step_api_Step__0_1 ) (h_l_1 := s_slices_CompareFunc__api_Step__api_Step_api_Step_api_Step__0_1   m   ) stk m    v0 v1  hp
noncomputable def p_slices_CompareFunc__api_Step__api_Step_api_Step_api_Step__0 : (List S_api_Step) → (List S_api_Step) → Option (Int) := fun v0 v1 => p_slices_CompareFunc__api_Step__api_Step_api_Step_api_Step__0_0  v0 v1
theorem s_slices_CompareFunc__api_Step__api_Step_api_Step_api_Step__0 : (C_slices_CompareFunc__api_Step__api_Step_api_Step_api_Step__0 (sysW table glob).pcall (sysW table glob).fcall (fun {_} e l => List.map e l) E_api_Step p_slices_CompareFunc__api_Step__api_Step_api_Step_api_Step__0) := by
  intro _ _ _ hp stk    
  exact pf_of (T := table) (G := glob) (f := 55) rfl rfl (s_slices_CompareFunc__api_Step__api_Step_api_Step_api_Step__0_0   (topN stk + 1)    hp stk )
noncomputable def p_path_Less_0  (v0 : (List S_api_Step)) (v1 : (List S_api_Step)) : Option (Bool) := b_path_Less_0 Prims.real p_slices_CompareFunc__api_Step__api_Step_api_Step_api_Step__0  v0 v1
theorem s_path_Less_0   (m : Nat)    : H_path_Less_0 (atW table glob) (fun {_} e l => List.map e l) E_api_Step m  p_path_Less_0 := by
  intro v0 v1 out hp stk 
  exact o_path_Less_0 (h := LW) (hT := rfl) (hPP := rfl) (he_e_api_Step := he_E_api_Step) (hz_e_api_Step := hz_E_api_Step) (he_e_api_Value := he_E_api_Value) (hz_e_api_Value := hz_E_api_Value) (he_e_api_Pair := he_E_api_Pair) (hz_e_api_Pair := hz_E_api_Pair) (he_e_int := he_E_int) (hz_e_int := hz_E_int) (c_slices_CompareFunc__api_Step__api_Step_api_Step_api_Step__0 := p_slices_CompareFunc__api_Step__api_Step_api_Step_api_Step__0) (h_slices_CompareFunc__api_Step__api_Step_api_Step_api_Step__0 := s_slices_CompareFunc__api_Step__api_Step_api_Step_api_Step__0)   stk m    v0 v1  hp
noncomputable def p_path_Less : (List S_api_Step) → (List S_api_Step) → Option (Bool) := fun v0 v1 => p_path_Less_0  v0 v1
theorem s_path_Less : (C_path_Less (sysW table glob).pcall (sysW table glob).fcall (fun {_} e l => List.map e l) E_api_Step p_path_Less) := by
  intro _ _ _ hp stk    
  exact pf_of (T := table) (G := glob) (f := 27) rfl rfl (s_path_Less_0   (topN stk + 1)    hp stk )
noncomputable def p_path_Key_0  (v0 : Str) : Option (S_api_Step) := b_path_Key_0 Prims.real   v0
theorem s_path_Key_0   (m : Nat)    : H_path_Key_0 (atW table glob) m  p_path_Key_0 := by
  intro v0 out hp stk 
  exact o_path_Key_0 (h := LW) (hT := rfl) (hPP := rfl) (he_e_api_Step := he_E_api_Step) (hz_e_api_Step := hz_E_api_Step) (he_e_api_Value := he_E_api_Value) (hz_e_api_Value := hz_E_api_Value) (he_e_api_Pair := he_E_api_Pair) (hz_e_api_Pair := hz_E_api_Pair) (he_e_int := he_E_int) (hz_e_int := hz_E_int)     stk m    v0  hp
noncomputable def p_path_Key : Str → Option (S_api_Step) := fun v0 => p_path_Key_0  v0
theorem s_path_Key : (C_path_Key (sysW table glob).pcall (sysW table glob).fcall p_path_Key) := by
  intro _ _ _ _ hp stk    
  exact pf_of (T := table) (G := glob) (f := 28) rfl rfl (s_path_Key_0   (topN stk + 1)    hp stk )
noncomputable def p_path_one_0  (v0_0 : Str) (v0_1 : Int) (v0_2 : Bool) (v1_0 : Str) (v1_1 : Int) (v1_2 : Bool) : Option (Bool) := b_path_one_0 Prims.real   v0_0 v0_1 v0_2 v1_0 v1_1 v1_2
theorem s_path_one_0   (m : Nat)    : H_path_one_0 (atW table glob) m  p_path_one_0 := by
  intro v0_0 v0_1 v0_2 v1_0 v1_1 v1_2 out hp stk 
  exact o_path_one_0 (h := LW) (hT := rfl) (hPP := rfl) (he_e_api_Step := he_E_api_Step) (hz_e_api_Step := hz_E_api_Step) (he_e_api_Value := he_E_api_Value) (hz_e_api_Value := hz_E_api_Value) (he_e_api_Pair := he_E_api_Pair) (hz_e_api_Pair := hz_E_api_Pair) (he_e_int := he_E_int) (hz_e_int := hz_E_int)     stk m    v0_0 v0_1 v0_2 v1_0 v1_1 v1_2  hp
noncomputable def p_path_one : S_api_Step → S_api_Step → Option (Bool) := fun ⟨v0_0, v0_1, v0_2⟩ ⟨v1_0, v1_1, v1_2⟩ => p_path_one_0  v0_0 v0_1 v0_2 v1_0 v1_1 v1_2
theorem s_path_one : (C_path_one (sysW table glob).pcall (sysW table glob).fcall p_path_one) := by
  intro _ _ _ _ _ _ _ hp stk    
  exact pf_of (T := table) (G := glob) (f := 58) rfl rfl (s_path_one_0   (topN stk + 1)    hp stk )
noncomputable def p_slices_EqualFunc__api_Step__api_Step_api_Step_api_Step__0_2  (v1 : (List S_api_Step)) (v15 : (List S_api_Step)) (v16 : Int) (v17 : Int) : Option (Bool) := Prims.real.loop (fun (s : (List S_api_Step) × (List S_api_Step) × Int × Int) => match s with | (v1, v15, v16, v17) => b_slices_EqualFunc__api_Step__api_Step_api_Step_api_Step__0_2 Prims.real p_path_one  v1 v15 v16 v17) (v1, v15, v16, v17)
theorem u_slices_EqualFunc__api_Step__api_Step_api_Step_api_Step__0_2  (v1 : (List S_api_Step)) (v15 : (List S_api_Step)) (v16 : Int) (v17 : Int) : p_slices_EqualFunc__api_Step__api_Step_api_Step_api_Step__0_2  v1 v15 v16 v17 = match b_slices_EqualFunc__api_Step__api_Step_api_Step_api_Step__0_2 Prims.real p_path_one  v1 v15 v16 v17 with
    | some (.inl (v1', v15', v16', v17')) => p_slices_EqualFunc__api_Step__api_Step_api_Step_api_Step__0_2  v1' v15' v16' v17'
    | some (.inr r) => some r
    | none => none := by
  show Pr.loop _ _ = _
  rw [Pr.loop_eq]
  try dsimp only
  generalize b_slices_EqualFunc__api_Step__api_Step_api_Step_api_Step__0_2 Prims.real p_path_one  v1 v15 v16 v17 = y
  cases y with
  | none => rfl
  | some y => cases y <;> rfl
theorem s_slices_EqualFunc__api_Step__api_Step_api_Step_api_Step__0_2   (m : Nat)    : H_slices_EqualFunc__api_Step__api_Step_api_Step_api_Step__0_2 (atW table glob) (fun {_} e l => List.map e l) E_api_Step m  p_slices_EqualFunc__api_Step__api_Step_api_Step_api_Step__0_2 := by
  intro v1 v15 v16 v17 out hp stk 
  refine LW.ind (fun (s : (List S_api_Step) × (List S_api_Step) × Int × Int) => match s with | (v1, v15, v16, v17) => b_slices_EqualFunc__api_Step__api_Step_api_Step_api_Step__0_2 Prims.real p_path_one  v1 v15 v16 v17) (fun (s : (List S_api_Step) × (List S_api_Step) × Int × Int) o => match s with | (v1, v15, v16, v17) => ∀ (stk : Stk), (A_slices_EqualFunc__api_Step__api_Step_api_Step_api_Step__0_2 (atW table glob) (fun {_} e l => List.map e l) E_api_Step m  v1 v15 v16 v17 stk) = (O_slices_EqualFunc__api_Step__api_Step_api_Step_api_Step__0  m  stk) o) (fun s r e => ?_) (fun s t r e ih => ?_) (v1, v15, v16, v17) out hp stk 
  · obtain ⟨v1, v15, v16, v17⟩ := s
    intro stk 
    exact o_slices_EqualFunc__api_Step__api_Step_api_Step_api_Step__0_2 (h := LW) (hT := rfl) (hPP := rfl) (he_e_api_Step := he_E_api_Step) (hz_e_api_Step := hz_E_api_Step) (he_e_api_Value := he_E_api_Value) (hz_e_api_Value := hz_E_api_Value) (he_e_api_Pair := he_E_api_Pair) (hz_e_api_Pair := hz_E_api_Pair) (he_e_int := he_E_int) (hz_e_int := hz_E_int) (c_path_one := p_path_one) (h_path_one := s_path_one)   stk m    v1 v15 v16 v17  e
  · obtain ⟨v1, v15, v16, v17⟩ := s; obtain ⟨v1', v15', v16', v17'⟩ := t
    intro stk 
    exact (o_slices_EqualFunc__api_Step__api_Step_api_Step_api_Step__0_2 (h := LW) (hT := rfl) (hPP := rfl) (he_e_api_Step := he_E_api_Step) (hz_e_api_Step := hz_E_api_Step) (he_e_api_Value := he_E_api_Value) (hz_e_api_Value := hz_E_api_Value) (he_e_api_Pair := he_E_api_Pair) (hz_e_api_Pair := hz_E_api_Pair) (he_e_int := he_E_int) (hz_e_int := hz_E_int) (c_path_one := p_path_one) (h_path_one := s_path_one)   stk m    v1 v15 v16 v17  e).trans (ih stk )
noncomputable def p_slices_EqualFunc__api_Step__api_Step_api_Step_api_Step__0_0  (v0 : (List S_api_Step)) (v1 : (List S_api_Step)) : Option (Bool) := b_slices_EqualFunc__api_Step__api_Step_api_Step_api_Step__0_0 Prims.real p_path_one p_slices_EqualFunc__api_Step__api_Step_api_Step_api_Step__0_2 v0 v1
theorem s_slices_EqualFunc__api_Step__api_Step_api_Step_api_Step__0_0   (m : Nat)    : H_slices_EqualFunc__api_Step__api_Step_api_Step_api_Step__0_0 (atW table glob) (fun {_} e l => List.map e l) E_api_Step m  p_slices_EqualFunc__api_Step__api_Step_api_Step_api_Step__0_0 := by
  intro v0 v1 out hp stk 
  exact o_slices_EqualFunc__api_Step__api_Step_api_Step_api_Step__0_0 (h := LW) (hT := rfl) (hPP := rfl) (he_e_api_Step := he_E_api_Step) (hz_e_api_Step := hz_E_api_Step) (he_e_api_Value := he_E_api_Value) (hz_e_api_Value := hz_E_api_Value) (he_e_api_Pair := he_E_api_Pair) (hz_e_api_Pair := hz_E_api_Pair) (he_e_int := he_E_int) (hz_e_int := hz_E_int) (c_path_one := p_path_one) (h_path_one := s_path_one) (l_2 := p_slices_EqualFunc__api_Step__api_Step_api_Step_api_Step__0_2 ) (h_l_2 := s_slices_EqualFunc__api_Step__api_Step_api_Step_api_Step__0_2   m   ) stk m    v0 v1  hp
noncomputable def p_slices_EqualFunc__api_Step__api_Step_api_Step_api_Step__0 : (List S_api_Step) → (List S_api_Step) → Option (Bool) := fun v0 v1 => p_slices_EqualFunc__api_Step__api_Step_api_Step_api_Step__0_0  v0 v1
theorem s_slices_EqualFunc__api_Step__api_Step_api_Step_api_Step__0 : (C_slices_EqualFunc__api_Step__api_Step_api_Step_api_Step__0 (sysW table glob).pcall (sysW table glob).fcall (fun {_} e l => List.map e l) E_api_Step p_slices_EqualFunc__api_Step__api_Step_api_Step_api_Step__0) := by
  intro _ _ _ hp stk    
  exact pf_of (T := table) (G := glob) (f := 57) rfl rfl (s_slices_EqualFunc__api_Step__api_Step_api_Step_api_Step__0_0   (topN stk + 1)    hp stk )
noncomputable def p_path_Under_0  (v0 : (List S_api_Step)) (v1 : (List S_api_Step)) : Option (Bool) := b_path_Under_0 Prims.real p_slices_EqualFunc__api_Step__api_Step_api_Step_api_Step__0  v0 v1
theorem s_path_Under_0   (m : Nat)    : H_path_Under_0 (atW table glob) (fun {_} e l => List.map e l) E_api_Step m  p_path_Under_0 := by
  intro v0 v1 out hp stk 
  exact o_path_Under_0 (h := LW) (hT := rfl) (hPP := rfl) (he_e_api_Step := he_E_api_Step) (hz_e_api_Step := hz_E_api_Step) (he_e_api_Value := he_E_api_Value) (hz_e_api_Value := hz_E_api_Value) (he_e_api_Pair := he_E_api_Pair) (hz_e_api_Pair := hz_E_api_Pair) (he_e_int := he_E_int) (hz_e_int := hz_E_int) (c_slices_EqualFunc__api_Step__api_Step_api_Step_api_Step__0 := p_slices_EqualFunc__api_Step__api_Step_api_Step_api_Step__0) (h_slices_EqualFunc__api_Step__api_Step_api_Step_api_Step__0 := s_slices_EqualFunc__api_Step__api_Step_api_Step_api_Step__0)   stk m    v0 v1  hp
noncomputable def p_path_Under : (List S_api_Step) → (List S_api_Step) → Option (Bool) := fun v0 v1 => p_path_Under_0  v0 v1
theorem s_path_Under : (C_path_Under (sysW table glob).pcall (sysW table glob).fcall (fun {_} e l => List.map e l) E_api_Step p_path_Under) := by
  intro _ _ _ hp stk    
  exact pf_of (T := table) (G := glob) (f := 30) rfl rfl (s_path_Under_0   (topN stk + 1)    hp stk )
noncomputable def p_path_Same_0  (v0 : (List S_api_Step)) (v1 : (List S_api_Step)) : Option (Bool) := b_path_Same_0 Prims.real p_slices_EqualFunc__api_Step__api_Step_api_Step_api_Step__0  v0 v1
theorem s_path_Same_0   (m : Nat)    : H_path_Same_0 (atW table glob) (fun {_} e l => List.map e l) E_api_Step m  p_path_Same_0 := by
  intro v0 v1 out hp stk 
  exact o_path_Same_0 (h := LW) (hT := rfl) (hPP := rfl) (he_e_api_Step := he_E_api_Step) (hz_e_api_Step := hz_E_api_Step) (he_e_api_Value := he_E_api_Value) (hz_e_api_Value := hz_E_api_Value) (he_e_api_Pair := he_E_api_Pair) (hz_e_api_Pair := hz_E_api_Pair) (he_e_int := he_E_int) (hz_e_int := hz_E_int) (c_slices_EqualFunc__api_Step__api_Step_api_Step_api_Step__0 := p_slices_EqualFunc__api_Step__api_Step_api_Step_api_Step__0) (h_slices_EqualFunc__api_Step__api_Step_api_Step_api_Step__0 := s_slices_EqualFunc__api_Step__api_Step_api_Step_api_Step__0)   stk m    v0 v1  hp
noncomputable def p_path_Same : (List S_api_Step) → (List S_api_Step) → Option (Bool) := fun v0 v1 => p_path_Same_0  v0 v1
theorem s_path_Same : (C_path_Same (sysW table glob).pcall (sysW table glob).fcall (fun {_} e l => List.map e l) E_api_Step p_path_Same) := by
  intro _ _ _ hp stk    
  exact pf_of (T := table) (G := glob) (f := 31) rfl rfl (s_path_Same_0   (topN stk + 1)    hp stk )
noncomputable def p_cascadelaw06_PathThird_3  (v0 : (List S_api_Step)) (v1 : (List S_api_Step)) (v7 : Int) : Option (Bool) := Prims.real.loop (fun (s : (List S_api_Step) × (List S_api_Step) × Int) => match s with | (v0, v1, v7) => b_cascadelaw06_PathThird_3 Prims.real p_cascadelaw06_awake p_cascaderef06_Few p_path_Less p_path_Key p_path_Place p_path_Under p_path_Same  v0 v1 v7) (v0, v1, v7)
theorem u_cascadelaw06_PathThird_3  (v0 : (List S_api_Step)) (v1 : (List S_api_Step)) (v7 : Int) : p_cascadelaw06_PathThird_3  v0 v1 v7 = match b_cascadelaw06_PathThird_3 Prims.real p_cascadelaw06_awake p_cascaderef06_Few p_path_Less p_path_Key p_path_Place p_path_Under p_path_Same  v0 v1 v7 with
    | some (.inl (v0', v1', v7')) => p_cascadelaw06_PathThird_3  v0' v1' v7'
    | some (.inr r) => some r
    | none => none := by
  show Pr.loop _ _ = _
  rw [Pr.loop_eq]
  try dsimp only
  generalize b_cascadelaw06_PathThird_3 Prims.real p_cascadelaw06_awake p_cascaderef06_Few p_path_Less p_path_Key p_path_Place p_path_Under p_path_Same  v0 v1 v7 = y
  cases y with
  | none => rfl
  | some y => cases y <;> rfl
theorem s_cascadelaw06_PathThird_3   (m : Nat)    : H_cascadelaw06_PathThird_3 (atW table glob) (fun {_} e l => List.map e l) E_api_Step m  p_cascadelaw06_PathThird_3 := by
  intro v0 v1 v7 out hp stk 
  refine LW.ind (fun (s : (List S_api_Step) × (List S_api_Step) × Int) => match s with | (v0, v1, v7) => b_cascadelaw06_PathThird_3 Prims.real p_cascadelaw06_awake p_cascaderef06_Few p_path_Less p_path_Key p_path_Place p_path_Under p_path_Same  v0 v1 v7) (fun (s : (List S_api_Step) × (List S_api_Step) × Int) o => match s with | (v0, v1, v7) => ∀ (stk : Stk), (A_cascadelaw06_PathThird_3 (atW table glob) (fun {_} e l => List.map e l) E_api_Step m  v0 v1 v7 stk) = (O_cascadelaw06_PathThird  m  stk) o) (fun s r e => ?_) (fun s t r e ih => ?_) (v0, v1, v7) out hp stk 
  · obtain ⟨v0, v1, v7⟩ := s
    intro stk 
    exact o_cascadelaw06_PathThird_3 (h := LW) (hT := rfl) (hPP := rfl) (he_e_api_Step := he_E_api_Step) (hz_e_api_Step := hz_E_api_Step) (he_e_api_Value := he_E_api_Value) (hz_e_api_Value := hz_E_api_Value) (he_e_api_Pair := he_E_api_Pair) (hz_e_api_Pair := hz_E_api_Pair) (he_e_int := he_E_int) (hz_e_int := hz_E_int) (c_cascadelaw06_awake := p_cascadelaw06_awake) (c_cascaderef06_Few := p_cascaderef06_Few) (c_path_Less := p_path_Less) (c_path_Key := p_path_Key) (c_path_Place := p_path_Place) (c_path_Under := p_path_Under) (c_path_Same := p_path_Same) (h_cascadelaw06_awake := s_cascadelaw06_awake) (h_cascaderef06_Few := s_cascaderef06_Few) (h_path_Less := s_path_Less) (h_path_Key := s_path_Key) (h_path_Place := s_path_Place) (h_path_Under := s_path_Under) (h_path_Same := s_path_Same)   stk m    v0 v1 v7  e
  · obtain ⟨v0, v1, v7⟩ := s; obtain ⟨v0', v1', v7'⟩ := t
    intro stk 
    exact (o_cascadelaw06_PathThird_3 (h := LW) (hT := rfl) (hPP := rfl) (he_e_api_Step := he_E_api_Step) (hz_e_api_Step := hz_E_api_Step) (he_e_api_Value := he_E_api_Value) (hz_e_api_Value := hz_E_api_Value) (he_e_api_Pair := he_E_api_Pair) (hz_e_api_Pair := hz_E_api_Pair) (he_e_int := he_E_int) (hz_e_int := hz_E_int) (c_cascadelaw06_awake := p_cascadelaw06_awake) (c_cascaderef06_Few := p_cascaderef06_Few) (c_path_Less := p_path_Less) (c_path_Key := p_path_Key) (c_path_Place := p_path_Place) (c_path_Under := p_path_Under) (c_path_Same := p_path_Same) (h_cascadelaw06_awake := s_cascadelaw06_awake) (h_cascaderef06_Few := s_cascaderef06_Few) (h_path_Less := s_path_Less) (h_path_Key := s_path_Key) (h_path_Place := s_path_Place) (h_path_Under := s_path_Under) (h_path_Same := s_path_Same)   stk m    v0 v1 v7  e).trans (ih stk )
noncomputable def p_cascadelaw06_PathThird_2  (v0 : (List S_api_Step)) (v1 : (List S_api_Step)) : Option (Bool) := b_cascadelaw06_PathThird_2 Prims.real p_cascadelaw06_awake p_cascaderef06_Few p_path_Less p_path_Key p_path_Place p_path_Under p_path_Same p_cascadelaw06_PathThird_3 v0 v1
theorem s_cascadelaw06_PathThird_2   (m : Nat)    : H_cascadelaw06_PathThird_2 (atW table glob) (fun {_} e l => List.map e l) E_api_Step m  p_cascadelaw06_PathThird_2 := by
  intro v0 v1 out hp stk 
  exact o_cascadelaw06_PathThird_2 (h := LW) (hT := rfl) (hPP := rfl) (he_e_api_Step := he_E_api_Step) (hz_e_api_Step := hz_E_api_Step) (he_e_api_Value := he_E_api_Value) (hz_e_api_Value := hz_E_api_Value) (he_e_api_Pair := he_E_api_Pair) (hz_e_api_Pair := hz_E_api_Pair) (he_e_int := he_E_int) (hz_e_int := hz_E_int) (c_cascadelaw06_awake := p_cascadelaw06_awake) (c_cascaderef06_Few := p_cascaderef06_Few) (c_path_Less := p_path_Less) (c_path_Key := p_path_Key) (c_path_Place := p_path_Place) (c_path_Under := p_path_Under) (c_path_Same := p_path_Same) (h_cascadelaw06_awake := s_cascadelaw06_awake) (h_cascaderef06_Few := s_cascaderef06_Few) (h_path_Less := s_path_Less) (h_path_Key := s_path_Key) (h_path_Place := s_path_Place) (h_path_Under := s_path_Under) (h_path_Same := s_path_Same) (l_3 := p_cascadelaw06_PathThird_3 ) (h_l_3 := s_cascadelaw06_PathThird_3   m   ) stk m    v0 v1  hp
noncomputable def p_cascadelaw06_PathThird_0  (v0 : (List S_api_Step)) (v1 : (List S_api_Step)) (v2 : (List S_api_Step)) : Option (Bool) := b_cascadelaw06_PathThird_0 Prims.real p_cascadelaw06_awake p_cascaderef06_Few p_path_Less p_path_Key p_path_Place p_path_Under p_path_Same p_cascadelaw06_PathThird_2 v0 v1 v2
theorem s_cascadelaw06_PathThird_0   (m : Nat)    : H_cascadelaw06_PathThird_0 (atW table glob) (fun {_} e l => List.map e l) E_api_Step m  p_cascadelaw06_PathThird_0 := by
  intro v0 v1 v2 out hp stk 
  exact o_cascadelaw06_PathThird_0 (h := LW) (hT := rfl) (hPP := rfl) (he_e_api_Step := he_E_api_Step) (hz_e_api_Step := hz_E_api_Step) (he_e_api_Value := he_E_api_Value) (hz_e_api_Value := hz_E_api_Value) (he_e_api_Pair := he_E_api_Pair) (hz_e_api_Pair := hz_E_api_Pair) (he_e_int := he_E_int) (hz_e_int := hz_E_int) (c_cascadelaw06_awake := p_cascadelaw06_awake) (c_cascaderef06_Few := p_cascaderef06_Few) (c_path_Less := p_path_Less) (c_path_Key := p_path_Key) (c_path_Place := p_path_Place) (c_path_Under := p_path_Under) (c_path_Same := p_path_Same) (h_cascadelaw06_awake := s_cascadelaw06_awake) (h_cascaderef06_Few := s_cascaderef06_Few) (h_path_Less := s_path_Less) (h_path_Key := s_path_Key) (h_path_Place := s_path_Place) (h_path_Under := s_path_Under) (h_path_Same := s_path_Same) (l_2 := p_cascadelaw06_PathThird_2 ) (h_l_2 := s_cascadelaw06_PathThird_2   m   ) stk m    v0 v1 v2  hp
noncomputable def p_cascadelaw06_PathThird : (List S_api_Step) → (List S_api_Step) → (List S_api_Step) → Option (Bool) := fun v0 v1 v2 => p_cascadelaw06_PathThird_0  v0 v1 v2
theorem s_cascadelaw06_PathThird : (C_cascadelaw06_PathThird (sysW table glob).pcall (sysW table glob).fcall (fun {_} e l => List.map e l) E_api_Step p_cascadelaw06_PathThird) := by
  intro _ _ _ _ hp stk    
  exact pf_of (T := table) (G := glob) (f := 5) rfl rfl (s_cascadelaw06_PathThird_0   (topN stk + 1)    hp stk )
end Go.Abs.T
