import Derived.Test.YtbfnelnbjcfliaaDoorWT
import Derived.KernelRfl
set_option linter.unusedVariables false
namespace Go.Abs.T
set_option maxRecDepth 100000
theorem table_ok : ∀ f kf, table f = some kf → kf.ok = true := by
  intro f kf h
  unfold table at h
  split at h <;> first | (cases h; done) | (cases h; kernel_rfl)
theorem LW : KLaws (oldT table) iterW glob (callW (oldT table) glob) (sysW table glob).pcall (sysW table glob).fcall (sysW table glob).kcall (List.length) (fun xs i => xs[i]?) (fun xs lo hi => (xs.take hi).drop lo) (fun xs ys => xs ++ ys) (fun xs i x => xs.set i x) (fun n x => List.replicate n x) (allSz) (List.length) (fun s i => s[i]?) (fun s lo hi => (s.take hi).drop lo) (fun a b => a ++ b) (fun a b => a == b) (fun a b => Op.bytesLess a b) (fun s => s.map fun b => .int .u8 b.toNat) (bytesOf) (fun s i => Utf8.decode ⟨⟨s⟩⟩ i) (fun n => (Utf8.encode n).data.toList) (intAr) (intCmp) (fun k n => k.wrap n) (fun n => decide (n = 0)) (fun n => decide (n < 0)) (fun n => n.toNat) (fun (n : Nat) => (n : Int)) (fun (b : UInt8) => (b.toNat : Int)) (fun a b => decide (a ≤ b)) (fun a b => a + b) (fun a b => a - b) (fun n b => decide (n * b ≤ room ∧ n ≤ room)) (findE) (Go.Abs.putE) (Go.Abs.findK) (List.length) (frzMap) (sameV) (atW table glob) setO (fun s => topN s + 1) sameStk (fun {_} e l => List.map e l) (fun {_} e l => mapE e l) Pr.quo Pr.shf Pr.slen Pr.sidx Pr.ssub Pr.scat Pr.sit Pr.slist Pr.ofBytes @Pr.len @Pr.idx @Pr.sub @Pr.app @Pr.set @Pr.make @Pr.mfind @Pr.mput @Pr.loop table := KLaws.real (G := glob) table_ok
abbrev XM {α : Type} (e : α → D) (l : List α) : List D := List.map e l
noncomputable abbrev AT := atW table glob
noncomputable abbrev PC := (sysW table glob).pcall
noncomputable abbrev FC := (sysW table glob).fcall
noncomputable abbrev KC_ := (sysW table glob).kcall
mutual
def E_api_Value : S_api_Value → D
  | ⟨x_0, x_1, x_2, x_3, x_4⟩ => (.agg [(.int .i64 x_0), (.int .i64 x_1), (.str x_2), (.sl (E_api_Value_l x_3)), (.sl (E_api_Pair_l x_4))])
def E_api_Value_l : List S_api_Value → List D
  | [] => []
  | x :: r => E_api_Value x :: E_api_Value_l r
def E_api_Pair : S_api_Pair → D
  | ⟨x_0, ⟨x_1_0, x_1_1, x_1_2, x_1_3, x_1_4⟩⟩ => (.agg [(.str x_0), (.int .i64 x_1_0), (.int .i64 x_1_1), (.str x_1_2), (.sl (E_api_Value_l x_1_3)), (.sl (E_api_Pair_l x_1_4))])
def E_api_Pair_l : List S_api_Pair → List D
  | [] => []
  | x :: r => E_api_Pair x :: E_api_Pair_l r
end
theorem E_api_Value_map : ∀ l, E_api_Value_l l = l.map E_api_Value
  | [] => by simp only [E_api_Value_l, List.map_nil]
  | x :: r => by simp only [E_api_Value_l, List.map_cons, E_api_Value_map r]
theorem E_api_Pair_map : ∀ l, E_api_Pair_l l = l.map E_api_Pair
  | [] => by simp only [E_api_Pair_l, List.map_nil]
  | x :: r => by simp only [E_api_Pair_l, List.map_cons, E_api_Pair_map r]
theorem he_E_api_Value (x_0 x_1 : Int) (x_2 : Str) (x_3 : Ls0) (x_4 : Ls1) : E_api_Value ⟨x_0, x_1, x_2, x_3, x_4⟩ = (.agg [(.int .i64 x_0), (.int .i64 x_1), (.str x_2), (.sl (List.map E_api_Value x_3)), (.sl (List.map E_api_Pair x_4))]) := by simp only [E_api_Value, E_api_Value_map, E_api_Pair_map]
theorem he_E_api_Pair (x_0 : Str) (x_1_0 x_1_1 : Int) (x_1_2 : Str) (x_1_3 : Ls0) (x_1_4 : Ls1) : E_api_Pair ⟨x_0, ⟨x_1_0, x_1_1, x_1_2, x_1_3, x_1_4⟩⟩ = (.agg [(.str x_0), (.int .i64 x_1_0), (.int .i64 x_1_1), (.str x_1_2), (.sl (List.map E_api_Value x_1_3)), (.sl (List.map E_api_Pair x_1_4))]) := by simp only [E_api_Pair, E_api_Value_map, E_api_Pair_map]
theorem hz_E_api_Value (l : List S_api_Value) : allSz 5 (l.map E_api_Value) = true := LW.allsz E_api_Value 5 (fun a => by obtain ⟨_, _, _, _, _⟩ := a; rw [he_E_api_Value]; exact ⟨rfl, rfl⟩) l
theorem hz_E_api_Pair (l : List S_api_Pair) : allSz 6 (l.map E_api_Pair) = true := LW.allsz E_api_Pair 6 (fun a => by obtain ⟨_, ⟨_, _, _, _, _⟩⟩ := a; rw [he_E_api_Pair]; exact ⟨rfl, rfl⟩) l
def E_int : Int → D := fun x => (.int .i64 x)
theorem he_E_int (x : Int) : E_int x = (.int .i64 x) := rfl
theorem hz_E_int (l : List Int) : allSz 1 (l.map E_int) = true := LW.allsz E_int 1 (fun a => ⟨rfl, rfl⟩) l
noncomputable def p_tree_unused_0  (v0_0 v0_1 : Int) (v0_2 : Str) (v0_3 : Ls0) (v0_4 : Ls1) : Option (Bool) := b_tree_unused_0 Prims.real   v0_0 v0_1 v0_2 v0_3 v0_4
theorem s_tree_unused_0   (m : Nat)    : H_tree_unused_0 AT @XM E_api_Value E_api_Pair m  p_tree_unused_0 := by
  intro v0_0 v0_1 v0_2 v0_3 v0_4 out hp stk 
  exact o_tree_unused_0 LW rfl rfl he_E_api_Value hz_E_api_Value he_E_api_Pair hz_E_api_Pair he_E_int hz_E_int stk m v0_0 v0_1 v0_2 v0_3 v0_4 hp
noncomputable def p_tree_unused : S_api_Value → Option (Bool) := fun ⟨v0_0, v0_1, v0_2, v0_3, v0_4⟩ => p_tree_unused_0  v0_0 v0_1 v0_2 v0_3 v0_4
theorem s_tree_unused : (C_tree_unused PC FC @XM E_api_Value E_api_Pair p_tree_unused) := by
  intro _ _ _ _ _ _ hp stk    
  exact pf_of (T := table) (G := glob) (f := 47) rfl rfl (s_tree_unused_0   (topN stk + 1)    hp stk )
theorem s_unicode_utf8_DecodeRuneInString : (C_unicode_utf8_DecodeRuneInString PC FC p_unicode_utf8_DecodeRuneInString) := by
  intro _ _ _ hp stk
  exact ⟨pcall_ext (T := table) (G := glob) (f := 76) (e := ext_unicode_utf8_DecodeRuneInString) rfl rfl (x_unicode_utf8_DecodeRuneInString hp) stk, fcall_ext (T := table) (G := glob) (f := 76) (e := ext_unicode_utf8_DecodeRuneInString) rfl rfl (x_unicode_utf8_DecodeRuneInString hp) stk⟩
noncomputable def p_text_Bad_1  (v0 o8_s : Str) (o8_p : Nat) : Option (Int) := Prims.real.loop (fun (s : Str × Str × Nat) => match s with | (v0, o8_s, o8_p) => b_text_Bad_1 Prims.real p_unicode_utf8_DecodeRuneInString  v0 o8_s o8_p) (v0, o8_s, o8_p)
theorem u_text_Bad_1  (v0 o8_s : Str) (o8_p : Nat) : p_text_Bad_1  v0 o8_s o8_p = match b_text_Bad_1 Prims.real p_unicode_utf8_DecodeRuneInString  v0 o8_s o8_p with
    | some (.inl (v0', o8_s', o8_p')) => p_text_Bad_1  v0' o8_s' o8_p'
    | some (.inr r) => some r
    | none => none := by
  show Pr.loop _ _ = _
  rw [Pr.loop_eq]
  try dsimp only
  generalize b_text_Bad_1 Prims.real p_unicode_utf8_DecodeRuneInString  v0 o8_s o8_p = y
  cases y with
  | none => rfl
  | some y => cases y <;> rfl
theorem s_text_Bad_1   (m : Nat)    : H_text_Bad_1 AT m  p_text_Bad_1 := by
  intro v0 o8_s o8_p out hp stk 
  refine LW.ind _ (fun (s : Str × Str × Nat) o => match s with | (v0, o8_s, o8_p) => ∀ (stk : Stk), (A_text_Bad_1 AT m  v0 o8_s o8_p stk) = (O_text_Bad  m  stk) o) (fun s r e => ?_) (fun s t r e ih => ?_) (v0, o8_s, o8_p) out hp stk 
  · obtain ⟨v0, o8_s, o8_p⟩ := s
    intro stk 
    exact o_text_Bad_1 LW rfl rfl he_E_api_Value hz_E_api_Value he_E_api_Pair hz_E_api_Pair he_E_int hz_E_int p_unicode_utf8_DecodeRuneInString s_unicode_utf8_DecodeRuneInString stk m v0 o8_s o8_p e
  · obtain ⟨v0, o8_s, o8_p⟩ := s; obtain ⟨v0', o8_s', o8_p'⟩ := t
    intro stk 
    exact (o_text_Bad_1 LW rfl rfl he_E_api_Value hz_E_api_Value he_E_api_Pair hz_E_api_Pair he_E_int hz_E_int p_unicode_utf8_DecodeRuneInString s_unicode_utf8_DecodeRuneInString stk m v0 o8_s o8_p e).trans (ih stk )
noncomputable def p_text_Bad_0  (v0 : Str) : Option (Int) := b_text_Bad_0 Prims.real p_unicode_utf8_DecodeRuneInString p_text_Bad_1 v0
theorem s_text_Bad_0   (m : Nat)    : H_text_Bad_0 AT m  p_text_Bad_0 := by
  intro v0 out hp stk 
  exact o_text_Bad_0 LW rfl rfl he_E_api_Value hz_E_api_Value he_E_api_Pair hz_E_api_Pair he_E_int hz_E_int p_unicode_utf8_DecodeRuneInString s_unicode_utf8_DecodeRuneInString stk m p_text_Bad_1 v0 (s_text_Bad_1 m ) hp
noncomputable def p_text_Bad : Str → Option (Int) := fun v0 => p_text_Bad_0  v0
theorem s_text_Bad : (C_text_Bad PC FC p_text_Bad) := by
  intro _ _ hp stk    
  exact pf_of (T := table) (G := glob) (f := 69) rfl rfl (s_text_Bad_0   (topN stk + 1)    hp stk )
noncomputable def p_text_Right_0  (v0 : Str) : Option (Bool) := b_text_Right_0 Prims.real p_text_Bad  v0
theorem s_text_Right_0   (m : Nat)    : H_text_Right_0 AT m  p_text_Right_0 := by
  intro v0 out hp stk 
  exact o_text_Right_0 LW rfl rfl he_E_api_Value hz_E_api_Value he_E_api_Pair hz_E_api_Pair he_E_int hz_E_int p_text_Bad s_text_Bad stk m v0 hp
noncomputable def p_text_Right : Str → Option (Bool) := fun v0 => p_text_Right_0  v0
theorem s_text_Right : (C_text_Right PC FC p_text_Right) := by
  intro _ _ hp stk    
  exact pf_of (T := table) (G := glob) (f := 48) rfl rfl (s_text_Right_0   (topN stk + 1)    hp stk )
noncomputable def p_tree_keys_3  (v7 : Ls1) (v8 v9 : Int) (o6_c : Nat) (o6 : (List (Str × Nat × Int))) : Option ((Ls1 × Int × Int × Nat × (List (Str × Nat × Int))) ⊕ (Bool)) := b_tree_keys_3 Prims.real p_text_Right  v7 v8 v9 o6_c o6
theorem s_tree_keys_3   (m : Nat)    : H_tree_keys_3 AT @XM (fun {_} e l => mapE e l) E_api_Pair E_int m  p_tree_keys_3 := by
  intro v7 v8 v9 o6_c o6 out hp stk 
  exact o_tree_keys_3 LW rfl rfl he_E_api_Value hz_E_api_Value he_E_api_Pair hz_E_api_Pair he_E_int hz_E_int p_text_Right s_text_Right stk m v7 v8 v9 o6_c o6 hp
noncomputable def p_tree_keys_1  (v7 : Ls1) (v8 v9 : Int) (o6_c : Nat) (o6 : (List (Str × Nat × Int))) : Option (Bool) := Prims.real.loop (fun (s : Ls1 × Int × Int × Nat × (List (Str × Nat × Int))) => match s with | (v7, v8, v9, o6_c, o6) => b_tree_keys_1 Prims.real p_text_Right p_tree_keys_3 v7 v8 v9 o6_c o6) (v7, v8, v9, o6_c, o6)
theorem u_tree_keys_1  (v7 : Ls1) (v8 v9 : Int) (o6_c : Nat) (o6 : (List (Str × Nat × Int))) : p_tree_keys_1  v7 v8 v9 o6_c o6 = match b_tree_keys_1 Prims.real p_text_Right p_tree_keys_3 v7 v8 v9 o6_c o6 with
    | some (.inl (v7', v8', v9', o6_c', o6')) => p_tree_keys_1  v7' v8' v9' o6_c' o6'
    | some (.inr r) => some r
    | none => none := by
  show Pr.loop _ _ = _
  rw [Pr.loop_eq]
  try dsimp only
  generalize b_tree_keys_1 Prims.real p_text_Right p_tree_keys_3 v7 v8 v9 o6_c o6 = y
  cases y with
  | none => rfl
  | some y => cases y <;> rfl
theorem s_tree_keys_1   (m : Nat)    : H_tree_keys_1 AT @XM (fun {_} e l => mapE e l) E_api_Pair E_int m  p_tree_keys_1 := by
  intro v7 v8 v9 o6_c o6 out hp stk 
  refine LW.ind _ (fun (s : Ls1 × Int × Int × Nat × (List (Str × Nat × Int))) o => match s with | (v7, v8, v9, o6_c, o6) => ∀ (stk : Stk), (A_tree_keys_1 AT @XM (fun {_} e l => mapE e l) E_api_Pair E_int m  v7 v8 v9 o6_c o6 stk) = (O_tree_keys  m  stk) o) (fun s r e => ?_) (fun s t r e ih => ?_) (v7, v8, v9, o6_c, o6) out hp stk 
  · obtain ⟨v7, v8, v9, o6_c, o6⟩ := s
    intro stk 
    exact o_tree_keys_1 LW rfl rfl he_E_api_Value hz_E_api_Value he_E_api_Pair hz_E_api_Pair he_E_int hz_E_int p_text_Right s_text_Right stk m p_tree_keys_3 v7 v8 v9 o6_c o6 (s_tree_keys_3 m ) e
  · obtain ⟨v7, v8, v9, o6_c, o6⟩ := s; obtain ⟨v7', v8', v9', o6_c', o6'⟩ := t
    intro stk 
    exact (o_tree_keys_1 LW rfl rfl he_E_api_Value hz_E_api_Value he_E_api_Pair hz_E_api_Pair he_E_int hz_E_int p_text_Right s_text_Right stk m p_tree_keys_3 v7 v8 v9 o6_c o6 (s_tree_keys_3 m ) e).trans (ih stk )
noncomputable def p_tree_keys_0  (v0 : Ls1) : Option (Bool) := b_tree_keys_0 Prims.real p_text_Right p_tree_keys_1 v0
theorem s_tree_keys_0   (m : Nat)    : H_tree_keys_0 AT @XM E_api_Pair m  p_tree_keys_0 := by
  intro v0 out hp stk 
  exact o_tree_keys_0 LW rfl rfl he_E_api_Value hz_E_api_Value he_E_api_Pair hz_E_api_Pair he_E_int hz_E_int p_text_Right s_text_Right stk m p_tree_keys_1 v0 (s_tree_keys_1 m ) hp
noncomputable def p_tree_keys : Ls1 → Option (Bool) := fun v0 => p_tree_keys_0  v0
theorem s_tree_keys : (C_tree_keys PC FC @XM E_api_Pair p_tree_keys) := by
  intro _ _ hp stk    
  exact pf_of (T := table) (G := glob) (f := 51) rfl rfl (s_tree_keys_0   (topN stk + 1)    hp stk )
noncomputable def p_tree_Right_1_1__0_0 (c_tree_Right_1__0 : S_api_Value → Int → Option (Bool)) (v0_0 v0_1 : Int) (v0_2 : Str) (v0_3 : Ls0) (v0_4 : Ls1) (v2_0 : Int) : Option (Bool) := b_tree_Right_1_1__0_0 Prims.real c_tree_Right_1__0  v0_0 v0_1 v0_2 v0_3 v0_4 v2_0
theorem s_tree_Right_1_1__0_0 (c_tree_Right_1__0 : S_api_Value → Int → Option (Bool)) (h_tree_Right_1__0 : (C_tree_Right_1__0 PC FC @XM E_api_Value E_api_Pair c_tree_Right_1__0)) (m : Nat) (n0 : Nat) (k0 : List Nat) (hl0 : n0 < m)  : H_tree_Right_1_1__0_0 AT @XM E_api_Value E_api_Pair m n0 k0 (p_tree_Right_1_1__0_0 c_tree_Right_1__0) := by
  intro v0_0 v0_1 v0_2 v0_3 v0_4 v2_0 out hp stk hg0
  exact o_tree_Right_1_1__0_0 LW rfl rfl he_E_api_Value hz_E_api_Value he_E_api_Pair hz_E_api_Pair he_E_int hz_E_int c_tree_Right_1__0 h_tree_Right_1__0 stk m n0 k0 hl0 v0_0 v0_1 v0_2 v0_3 v0_4 v2_0 hg0 hp
noncomputable def p_tree_Right_1__0_0 (c_slices_ContainsFunc__api_Value_api_Value__0 : Ls0 → Int → Option (Bool)) (c_slices_ContainsFunc__api_Pair_api_Pair__0 : Ls1 → Int → Option (Bool)) (v0_0 v0_1 : Int) (v0_2 : Str) (v0_3 : Ls0) (v0_4 : Ls1) (v1 : Int) : Option (Bool) := b_tree_Right_1__0_0 Prims.real p_tree_unused p_text_Right c_slices_ContainsFunc__api_Value_api_Value__0 p_tree_keys c_slices_ContainsFunc__api_Pair_api_Pair__0  v0_0 v0_1 v0_2 v0_3 v0_4 v1
theorem s_tree_Right_1__0_0 (c_slices_ContainsFunc__api_Value_api_Value__0 : Ls0 → Int → Option (Bool)) (c_slices_ContainsFunc__api_Pair_api_Pair__0 : Ls1 → Int → Option (Bool)) (h_slices_ContainsFunc__api_Value_api_Value__0 : (C_slices_ContainsFunc__api_Value_api_Value__0 PC FC @XM E_api_Value c_slices_ContainsFunc__api_Value_api_Value__0)) (h_slices_ContainsFunc__api_Pair_api_Pair__0 : (C_slices_ContainsFunc__api_Pair_api_Pair__0 PC FC @XM E_api_Pair c_slices_ContainsFunc__api_Pair_api_Pair__0)) (m : Nat) (n0 : Nat) (k0 : List Nat) (hl0 : n0 < m)  : H_tree_Right_1__0_0 AT @XM E_api_Value E_api_Pair m n0 k0 (p_tree_Right_1__0_0 c_slices_ContainsFunc__api_Value_api_Value__0 c_slices_ContainsFunc__api_Pair_api_Pair__0) := by
  intro v0_0 v0_1 v0_2 v0_3 v0_4 v1 out hp stk hg0
  exact o_tree_Right_1__0_0 LW rfl rfl he_E_api_Value hz_E_api_Value he_E_api_Pair hz_E_api_Pair he_E_int hz_E_int p_tree_unused p_text_Right c_slices_ContainsFunc__api_Value_api_Value__0 p_tree_keys c_slices_ContainsFunc__api_Pair_api_Pair__0 s_tree_unused s_text_Right h_slices_ContainsFunc__api_Value_api_Value__0 s_tree_keys h_slices_ContainsFunc__api_Pair_api_Pair__0 stk m n0 k0 hl0 v0_0 v0_1 v0_2 v0_3 v0_4 v1 hg0 hp
noncomputable def p_slices_ContainsFunc__api_Value_api_Value__0_0 (c_slices_IndexFunc__api_Value_api_Value__0 : Ls0 → Int → Option (Int)) (v0 : Ls0) (v1_c1_0 : Int) : Option (Bool) := b_slices_ContainsFunc__api_Value_api_Value__0_0 Prims.real c_slices_IndexFunc__api_Value_api_Value__0  v0 v1_c1_0
theorem s_slices_ContainsFunc__api_Value_api_Value__0_0 (c_slices_IndexFunc__api_Value_api_Value__0 : Ls0 → Int → Option (Int)) (h_slices_IndexFunc__api_Value_api_Value__0 : (C_slices_IndexFunc__api_Value_api_Value__0 PC FC @XM E_api_Value c_slices_IndexFunc__api_Value_api_Value__0)) (m : Nat) (n0 : Nat) (k0 : List Nat) (hl0 : n0 < m)  : H_slices_ContainsFunc__api_Value_api_Value__0_0 AT @XM E_api_Value m n0 k0 (p_slices_ContainsFunc__api_Value_api_Value__0_0 c_slices_IndexFunc__api_Value_api_Value__0) := by
  intro v0 v1_c1_0 out hp stk hg0
  exact o_slices_ContainsFunc__api_Value_api_Value__0_0 LW rfl rfl he_E_api_Value hz_E_api_Value he_E_api_Pair hz_E_api_Pair he_E_int hz_E_int c_slices_IndexFunc__api_Value_api_Value__0 h_slices_IndexFunc__api_Value_api_Value__0 stk m n0 k0 hl0 v0 v1_c1_0 hg0 hp
noncomputable def p_slices_IndexFunc__api_Value_api_Value__0_1 (c_tree_Right_1_1__0 : S_api_Value → Int → Option (Bool)) (v0 : Ls0) (v1_c1_0 v7 v8 : Int) : Option (Int) := Prims.real.loop (fun (s : Ls0 × Int × Int × Int) => match s with | (v0, v1_c1_0, v7, v8) => b_slices_IndexFunc__api_Value_api_Value__0_1 Prims.real c_tree_Right_1_1__0  v0 v1_c1_0 v7 v8) (v0, v1_c1_0, v7, v8)
theorem u_slices_IndexFunc__api_Value_api_Value__0_1 (c_tree_Right_1_1__0 : S_api_Value → Int → Option (Bool)) (v0 : Ls0) (v1_c1_0 v7 v8 : Int) : p_slices_IndexFunc__api_Value_api_Value__0_1 c_tree_Right_1_1__0 v0 v1_c1_0 v7 v8 = match b_slices_IndexFunc__api_Value_api_Value__0_1 Prims.real c_tree_Right_1_1__0  v0 v1_c1_0 v7 v8 with
    | some (.inl (v0', v1_c1_0', v7', v8')) => p_slices_IndexFunc__api_Value_api_Value__0_1 c_tree_Right_1_1__0 v0' v1_c1_0' v7' v8'
    | some (.inr r) => some r
    | none => none := by
  show Pr.loop _ _ = _
  rw [Pr.loop_eq]
  try dsimp only
  generalize b_slices_IndexFunc__api_Value_api_Value__0_1 Prims.real c_tree_Right_1_1__0  v0 v1_c1_0 v7 v8 = y
  cases y with
  | none => rfl
  | some y => cases y <;> rfl
theorem s_slices_IndexFunc__api_Value_api_Value__0_1 (c_tree_Right_1_1__0 : S_api_Value → Int → Option (Bool)) (h_tree_Right_1_1__0 : (C_tree_Right_1_1__0 PC FC @XM E_api_Value E_api_Pair c_tree_Right_1_1__0)) (m : Nat) (n0 : Nat) (k0 : List Nat) (hl0 : n0 < m)  : H_slices_IndexFunc__api_Value_api_Value__0_1 AT @XM E_api_Value m n0 k0 (p_slices_IndexFunc__api_Value_api_Value__0_1 c_tree_Right_1_1__0) := by
  intro v0 v1_c1_0 v7 v8 out hp stk hg0
  refine LW.ind _ (fun (s : Ls0 × Int × Int × Int) o => match s with | (v0, v1_c1_0, v7, v8) => ∀ (stk : Stk), getO stk ⟨n0, k0⟩ = some (.cells [(.clos (.func F.tree_Right_1) [] [(.ref ⟨n0, k0⟩ 0)])]) → (A_slices_IndexFunc__api_Value_api_Value__0_1 AT @XM E_api_Value m n0 k0 v0 v1_c1_0 v7 v8 stk) = (O_slices_IndexFunc__api_Value_api_Value__0  m n0 k0 stk) o) (fun s r e => ?_) (fun s t r e ih => ?_) (v0, v1_c1_0, v7, v8) out hp stk hg0
  · obtain ⟨v0, v1_c1_0, v7, v8⟩ := s
    intro stk hg0
    exact o_slices_IndexFunc__api_Value_api_Value__0_1 LW rfl rfl he_E_api_Value hz_E_api_Value he_E_api_Pair hz_E_api_Pair he_E_int hz_E_int c_tree_Right_1_1__0 h_tree_Right_1_1__0 stk m n0 k0 hl0 v0 v1_c1_0 v7 v8 hg0 e
  · obtain ⟨v0, v1_c1_0, v7, v8⟩ := s; obtain ⟨v0', v1_c1_0', v7', v8'⟩ := t
    intro stk hg0
    exact (o_slices_IndexFunc__api_Value_api_Value__0_1 LW rfl rfl he_E_api_Value hz_E_api_Value he_E_api_Pair hz_E_api_Pair he_E_int hz_E_int c_tree_Right_1_1__0 h_tree_Right_1_1__0 stk m n0 k0 hl0 v0 v1_c1_0 v7 v8 hg0 e).trans (ih stk (hg0))
noncomputable def p_slices_IndexFunc__api_Value_api_Value__0_0 (c_tree_Right_1_1__0 : S_api_Value → Int → Option (Bool)) (v0 : Ls0) (v1_c1_0 : Int) : Option (Int) := b_slices_IndexFunc__api_Value_api_Value__0_0 Prims.real c_tree_Right_1_1__0 (p_slices_IndexFunc__api_Value_api_Value__0_1 c_tree_Right_1_1__0) v0 v1_c1_0
theorem s_slices_IndexFunc__api_Value_api_Value__0_0 (c_tree_Right_1_1__0 : S_api_Value → Int → Option (Bool)) (h_tree_Right_1_1__0 : (C_tree_Right_1_1__0 PC FC @XM E_api_Value E_api_Pair c_tree_Right_1_1__0)) (m : Nat) (n0 : Nat) (k0 : List Nat) (hl0 : n0 < m)  : H_slices_IndexFunc__api_Value_api_Value__0_0 AT @XM E_api_Value m n0 k0 (p_slices_IndexFunc__api_Value_api_Value__0_0 c_tree_Right_1_1__0) := by
  intro v0 v1_c1_0 out hp stk hg0
  exact o_slices_IndexFunc__api_Value_api_Value__0_0 LW rfl rfl he_E_api_Value hz_E_api_Value he_E_api_Pair hz_E_api_Pair he_E_int hz_E_int c_tree_Right_1_1__0 h_tree_Right_1_1__0 stk m n0 k0 hl0 (p_slices_IndexFunc__api_Value_api_Value__0_1 c_tree_Right_1_1__0) v0 v1_c1_0 hg0 (s_slices_IndexFunc__api_Value_api_Value__0_1 c_tree_Right_1_1__0 h_tree_Right_1_1__0 m n0 k0 hl0 ) hp
noncomputable def p_slices_ContainsFunc__api_Pair_api_Pair__0_0 (c_slices_IndexFunc__api_Pair_api_Pair__0 : Ls1 → Int → Option (Int)) (v0 : Ls1) (v1_c1_0 : Int) : Option (Bool) := b_slices_ContainsFunc__api_Pair_api_Pair__0_0 Prims.real c_slices_IndexFunc__api_Pair_api_Pair__0  v0 v1_c1_0
theorem s_slices_ContainsFunc__api_Pair_api_Pair__0_0 (c_slices_IndexFunc__api_Pair_api_Pair__0 : Ls1 → Int → Option (Int)) (h_slices_IndexFunc__api_Pair_api_Pair__0 : (C_slices_IndexFunc__api_Pair_api_Pair__0 PC FC @XM E_api_Pair c_slices_IndexFunc__api_Pair_api_Pair__0)) (m : Nat) (n0 : Nat) (k0 : List Nat) (hl0 : n0 < m)  : H_slices_ContainsFunc__api_Pair_api_Pair__0_0 AT @XM E_api_Pair m n0 k0 (p_slices_ContainsFunc__api_Pair_api_Pair__0_0 c_slices_IndexFunc__api_Pair_api_Pair__0) := by
  intro v0 v1_c1_0 out hp stk hg0
  exact o_slices_ContainsFunc__api_Pair_api_Pair__0_0 LW rfl rfl he_E_api_Value hz_E_api_Value he_E_api_Pair hz_E_api_Pair he_E_int hz_E_int c_slices_IndexFunc__api_Pair_api_Pair__0 h_slices_IndexFunc__api_Pair_api_Pair__0 stk m n0 k0 hl0 v0 v1_c1_0 hg0 hp
noncomputable def p_slices_IndexFunc__api_Pair_api_Pair__0_1 (c_tree_Right_1_2__0 : S_api_Pair → Int → Option (Bool)) (v0 : Ls1) (v1_c1_0 v7 v8 : Int) : Option (Int) := Prims.real.loop (fun (s : Ls1 × Int × Int × Int) => match s with | (v0, v1_c1_0, v7, v8) => b_slices_IndexFunc__api_Pair_api_Pair__0_1 Prims.real c_tree_Right_1_2__0  v0 v1_c1_0 v7 v8) (v0, v1_c1_0, v7, v8)
theorem u_slices_IndexFunc__api_Pair_api_Pair__0_1 (c_tree_Right_1_2__0 : S_api_Pair → Int → Option (Bool)) (v0 : Ls1) (v1_c1_0 v7 v8 : Int) : p_slices_IndexFunc__api_Pair_api_Pair__0_1 c_tree_Right_1_2__0 v0 v1_c1_0 v7 v8 = match b_slices_IndexFunc__api_Pair_api_Pair__0_1 Prims.real c_tree_Right_1_2__0  v0 v1_c1_0 v7 v8 with
    | some (.inl (v0', v1_c1_0', v7', v8')) => p_slices_IndexFunc__api_Pair_api_Pair__0_1 c_tree_Right_1_2__0 v0' v1_c1_0' v7' v8'
    | some (.inr r) => some r
    | none => none := by
  show Pr.loop _ _ = _
  rw [Pr.loop_eq]
  try dsimp only
  generalize b_slices_IndexFunc__api_Pair_api_Pair__0_1 Prims.real c_tree_Right_1_2__0  v0 v1_c1_0 v7 v8 = y
  cases y with
  | none => rfl
  | some y => cases y <;> rfl
theorem s_slices_IndexFunc__api_Pair_api_Pair__0_1 (c_tree_Right_1_2__0 : S_api_Pair → Int → Option (Bool)) (h_tree_Right_1_2__0 : (C_tree_Right_1_2__0 PC FC @XM E_api_Value E_api_Pair c_tree_Right_1_2__0)) (m : Nat) (n0 : Nat) (k0 : List Nat) (hl0 : n0 < m)  : H_slices_IndexFunc__api_Pair_api_Pair__0_1 AT @XM E_api_Pair m n0 k0 (p_slices_IndexFunc__api_Pair_api_Pair__0_1 c_tree_Right_1_2__0) := by
  intro v0 v1_c1_0 v7 v8 out hp stk hg0
  refine LW.ind _ (fun (s : Ls1 × Int × Int × Int) o => match s with | (v0, v1_c1_0, v7, v8) => ∀ (stk : Stk), getO stk ⟨n0, k0⟩ = some (.cells [(.clos (.func F.tree_Right_1) [] [(.ref ⟨n0, k0⟩ 0)])]) → (A_slices_IndexFunc__api_Pair_api_Pair__0_1 AT @XM E_api_Pair m n0 k0 v0 v1_c1_0 v7 v8 stk) = (O_slices_IndexFunc__api_Pair_api_Pair__0  m n0 k0 stk) o) (fun s r e => ?_) (fun s t r e ih => ?_) (v0, v1_c1_0, v7, v8) out hp stk hg0
  · obtain ⟨v0, v1_c1_0, v7, v8⟩ := s
    intro stk hg0
    exact o_slices_IndexFunc__api_Pair_api_Pair__0_1 LW rfl rfl he_E_api_Value hz_E_api_Value he_E_api_Pair hz_E_api_Pair he_E_int hz_E_int c_tree_Right_1_2__0 h_tree_Right_1_2__0 stk m n0 k0 hl0 v0 v1_c1_0 v7 v8 hg0 e
  · obtain ⟨v0, v1_c1_0, v7, v8⟩ := s; obtain ⟨v0', v1_c1_0', v7', v8'⟩ := t
    intro stk hg0
    exact (o_slices_IndexFunc__api_Pair_api_Pair__0_1 LW rfl rfl he_E_api_Value hz_E_api_Value he_E_api_Pair hz_E_api_Pair he_E_int hz_E_int c_tree_Right_1_2__0 h_tree_Right_1_2__0 stk m n0 k0 hl0 v0 v1_c1_0 v7 v8 hg0 e).trans (ih stk (hg0))
noncomputable def p_slices_IndexFunc__api_Pair_api_Pair__0_0 (c_tree_Right_1_2__0 : S_api_Pair → Int → Option (Bool)) (v0 : Ls1) (v1_c1_0 : Int) : Option (Int) := b_slices_IndexFunc__api_Pair_api_Pair__0_0 Prims.real c_tree_Right_1_2__0 (p_slices_IndexFunc__api_Pair_api_Pair__0_1 c_tree_Right_1_2__0) v0 v1_c1_0
theorem s_slices_IndexFunc__api_Pair_api_Pair__0_0 (c_tree_Right_1_2__0 : S_api_Pair → Int → Option (Bool)) (h_tree_Right_1_2__0 : (C_tree_Right_1_2__0 PC FC @XM E_api_Value E_api_Pair c_tree_Right_1_2__0)) (m : Nat) (n0 : Nat) (k0 : List Nat) (hl0 : n0 < m)  : H_slices_IndexFunc__api_Pair_api_Pair__0_0 AT @XM E_api_Pair m n0 k0 (p_slices_IndexFunc__api_Pair_api_Pair__0_0 c_tree_Right_1_2__0) := by
  intro v0 v1_c1_0 out hp stk hg0
  exact o_slices_IndexFunc__api_Pair_api_Pair__0_0 LW rfl rfl he_E_api_Value hz_E_api_Value he_E_api_Pair hz_E_api_Pair he_E_int hz_E_int c_tree_Right_1_2__0 h_tree_Right_1_2__0 stk m n0 k0 hl0 (p_slices_IndexFunc__api_Pair_api_Pair__0_1 c_tree_Right_1_2__0) v0 v1_c1_0 hg0 (s_slices_IndexFunc__api_Pair_api_Pair__0_1 c_tree_Right_1_2__0 h_tree_Right_1_2__0 m n0 k0 hl0 ) hp
noncomputable def p_tree_Right_1_2__0_0 (c_tree_Right_1__0 : S_api_Value → Int → Option (Bool)) (v0_0 : Str) (v0_1_0 v0_1_1 : Int) (v0_1_2 : Str) (v0_1_3 : Ls0) (v0_1_4 : Ls1) (v2_0 : Int) : Option (Bool) := b_tree_Right_1_2__0_0 Prims.real c_tree_Right_1__0  v0_0 v0_1_0 v0_1_1 v0_1_2 v0_1_3 v0_1_4 v2_0
theorem s_tree_Right_1_2__0_0 (c_tree_Right_1__0 : S_api_Value → Int → Option (Bool)) (h_tree_Right_1__0 : (C_tree_Right_1__0 PC FC @XM E_api_Value E_api_Pair c_tree_Right_1__0)) (m : Nat) (n0 : Nat) (k0 : List Nat) (hl0 : n0 < m)  : H_tree_Right_1_2__0_0 AT @XM E_api_Value E_api_Pair m n0 k0 (p_tree_Right_1_2__0_0 c_tree_Right_1__0) := by
  intro v0_0 v0_1_0 v0_1_1 v0_1_2 v0_1_3 v0_1_4 v2_0 out hp stk hg0
  exact o_tree_Right_1_2__0_0 LW rfl rfl he_E_api_Value hz_E_api_Value he_E_api_Pair hz_E_api_Pair he_E_int hz_E_int c_tree_Right_1__0 h_tree_Right_1__0 stk m n0 k0 hl0 v0_0 v0_1_0 v0_1_1 v0_1_2 v0_1_3 v0_1_4 v2_0 hg0 hp
noncomputable def pk_tree_Right_1_1__0 : Nat → (S_api_Value → Int → Option (Bool)) × (S_api_Value → Int → Option (Bool)) × (Ls0 → Int → Option (Bool)) × (Ls0 → Int → Option (Int)) × (Ls1 → Int → Option (Bool)) × (Ls1 → Int → Option (Int)) × (S_api_Pair → Int → Option (Bool))
  | 0 => (fun _ _ => none, fun _ _ => none, fun _ _ => none, fun _ _ => none, fun _ _ => none, fun _ _ => none, fun _ _ => none)
  | k + 1 => (fun ⟨v0_0, v0_1, v0_2, v0_3, v0_4⟩ v2_0 => p_tree_Right_1_1__0_0 ((pk_tree_Right_1_1__0 k).2.1) v0_0 v0_1 v0_2 v0_3 v0_4 v2_0, fun ⟨v0_0, v0_1, v0_2, v0_3, v0_4⟩ v1 => p_tree_Right_1__0_0 ((pk_tree_Right_1_1__0 k).2.2.1) ((pk_tree_Right_1_1__0 k).2.2.2.2.1) v0_0 v0_1 v0_2 v0_3 v0_4 v1, fun v0 v1_c1_0 => p_slices_ContainsFunc__api_Value_api_Value__0_0 ((pk_tree_Right_1_1__0 k).2.2.2.1) v0 v1_c1_0, fun v0 v1_c1_0 => p_slices_IndexFunc__api_Value_api_Value__0_0 ((pk_tree_Right_1_1__0 k).1) v0 v1_c1_0, fun v0 v1_c1_0 => p_slices_ContainsFunc__api_Pair_api_Pair__0_0 ((pk_tree_Right_1_1__0 k).2.2.2.2.2.1) v0 v1_c1_0, fun v0 v1_c1_0 => p_slices_IndexFunc__api_Pair_api_Pair__0_0 ((pk_tree_Right_1_1__0 k).2.2.2.2.2.2) v0 v1_c1_0, fun ⟨v0_0, ⟨v0_1_0, v0_1_1, v0_1_2, v0_1_3, v0_1_4⟩⟩ v2_0 => p_tree_Right_1_2__0_0 ((pk_tree_Right_1_1__0 k).2.1) v0_0 v0_1_0 v0_1_1 v0_1_2 v0_1_3 v0_1_4 v2_0)
theorem sk_tree_Right_1_1__0 : ∀ k, ((C_tree_Right_1_1__0 PC FC @XM E_api_Value E_api_Pair ((pk_tree_Right_1_1__0 k).1))) ∧ ((C_tree_Right_1__0 PC FC @XM E_api_Value E_api_Pair ((pk_tree_Right_1_1__0 k).2.1))) ∧ ((C_slices_ContainsFunc__api_Value_api_Value__0 PC FC @XM E_api_Value ((pk_tree_Right_1_1__0 k).2.2.1))) ∧ ((C_slices_IndexFunc__api_Value_api_Value__0 PC FC @XM E_api_Value ((pk_tree_Right_1_1__0 k).2.2.2.1))) ∧ ((C_slices_ContainsFunc__api_Pair_api_Pair__0 PC FC @XM E_api_Pair ((pk_tree_Right_1_1__0 k).2.2.2.2.1))) ∧ ((C_slices_IndexFunc__api_Pair_api_Pair__0 PC FC @XM E_api_Pair ((pk_tree_Right_1_1__0 k).2.2.2.2.2.1))) ∧ ((C_tree_Right_1_2__0 PC FC @XM E_api_Value E_api_Pair ((pk_tree_Right_1_1__0 k).2.2.2.2.2.2))) ∧ True
  | 0 => by
    refine ⟨?_, ?_, ?_, ?_, ?_, ?_, ?_, trivial⟩
    · intro _ _ _ _ _ _ _ hp; exact nomatch (show none = some _ from hp)
    · intro _ _ _ _ _ _ _ hp; exact nomatch (show none = some _ from hp)
    · intro _ _ _ hp; exact nomatch (show none = some _ from hp)
    · intro _ _ _ hp; exact nomatch (show none = some _ from hp)
    · intro _ _ _ hp; exact nomatch (show none = some _ from hp)
    · intro _ _ _ hp; exact nomatch (show none = some _ from hp)
    · intro _ _ _ _ _ _ _ _ hp; exact nomatch (show none = some _ from hp)
  | k + 1 => by
    obtain ⟨ih0, ih1, ih2, ih3, ih4, ih5, ih6, _⟩ := sk_tree_Right_1_1__0 k
    refine ⟨?_, ?_, ?_, ?_, ?_, ?_, ?_, trivial⟩
    · intro _ _ _ _ _ _ _ hp stk n0 k0 hg0 hl0 
      exact pf_of (T := table) (G := glob) (f := 50) rfl rfl (s_tree_Right_1_1__0_0 ((pk_tree_Right_1_1__0 k).2.1) ih1 (topN stk + 1) n0 k0 (Nat.lt_succ_of_le hl0)  hp stk hg0)
    · intro _ _ _ _ _ _ _ hp stk n0 k0 hg0 hl0 
      exact pf_of (T := table) (G := glob) (f := 46) rfl rfl (s_tree_Right_1__0_0 ((pk_tree_Right_1_1__0 k).2.2.1) ((pk_tree_Right_1_1__0 k).2.2.2.2.1) ih2 ih4 (topN stk + 1) n0 k0 (Nat.lt_succ_of_le hl0)  hp stk hg0)
    · intro _ _ _ hp stk n0 k0 hg0 hl0 
      exact pf_of (T := table) (G := glob) (f := 49) rfl rfl (s_slices_ContainsFunc__api_Value_api_Value__0_0 ((pk_tree_Right_1_1__0 k).2.2.2.1) ih3 (topN stk + 1) n0 k0 (Nat.lt_succ_of_le hl0)  hp stk hg0)
    · intro _ _ _ hp stk n0 k0 hg0 hl0 
      exact pf_of (T := table) (G := glob) (f := 70) rfl rfl (s_slices_IndexFunc__api_Value_api_Value__0_0 ((pk_tree_Right_1_1__0 k).1) ih0 (topN stk + 1) n0 k0 (Nat.lt_succ_of_le hl0)  hp stk hg0)
    · intro _ _ _ hp stk n0 k0 hg0 hl0 
      exact pf_of (T := table) (G := glob) (f := 52) rfl rfl (s_slices_ContainsFunc__api_Pair_api_Pair__0_0 ((pk_tree_Right_1_1__0 k).2.2.2.2.2.1) ih5 (topN stk + 1) n0 k0 (Nat.lt_succ_of_le hl0)  hp stk hg0)
    · intro _ _ _ hp stk n0 k0 hg0 hl0 
      exact pf_of (T := table) (G := glob) (f := 57) rfl rfl (s_slices_IndexFunc__api_Pair_api_Pair__0_0 ((pk_tree_Right_1_1__0 k).2.2.2.2.2.2) ih6 (topN stk + 1) n0 k0 (Nat.lt_succ_of_le hl0)  hp stk hg0)
    · intro _ _ _ _ _ _ _ _ hp stk n0 k0 hg0 hl0 
      exact pf_of (T := table) (G := glob) (f := 53) rfl rfl (s_tree_Right_1_2__0_0 ((pk_tree_Right_1_1__0 k).2.1) ih1 (topN stk + 1) n0 k0 (Nat.lt_succ_of_le hl0)  hp stk hg0)
noncomputable def p_tree_Right_1_1__0 : S_api_Value → Int → Option (Bool) := (pk_tree_Right_1_1__0 1000000).1
theorem s_tree_Right_1_1__0 : (C_tree_Right_1_1__0 PC FC @XM E_api_Value E_api_Pair p_tree_Right_1_1__0) := (sk_tree_Right_1_1__0 1000000).1
noncomputable def p_tree_Right_1__0 : S_api_Value → Int → Option (Bool) := (pk_tree_Right_1_1__0 1000000).2.1
theorem s_tree_Right_1__0 : (C_tree_Right_1__0 PC FC @XM E_api_Value E_api_Pair p_tree_Right_1__0) := (sk_tree_Right_1_1__0 1000000).2.1
noncomputable def p_slices_ContainsFunc__api_Value_api_Value__0 : Ls0 → Int → Option (Bool) := (pk_tree_Right_1_1__0 1000000).2.2.1
theorem s_slices_ContainsFunc__api_Value_api_Value__0 : (C_slices_ContainsFunc__api_Value_api_Value__0 PC FC @XM E_api_Value p_slices_ContainsFunc__api_Value_api_Value__0) := (sk_tree_Right_1_1__0 1000000).2.2.1
noncomputable def p_slices_IndexFunc__api_Value_api_Value__0 : Ls0 → Int → Option (Int) := (pk_tree_Right_1_1__0 1000000).2.2.2.1
theorem s_slices_IndexFunc__api_Value_api_Value__0 : (C_slices_IndexFunc__api_Value_api_Value__0 PC FC @XM E_api_Value p_slices_IndexFunc__api_Value_api_Value__0) := (sk_tree_Right_1_1__0 1000000).2.2.2.1
noncomputable def p_slices_ContainsFunc__api_Pair_api_Pair__0 : Ls1 → Int → Option (Bool) := (pk_tree_Right_1_1__0 1000000).2.2.2.2.1
theorem s_slices_ContainsFunc__api_Pair_api_Pair__0 : (C_slices_ContainsFunc__api_Pair_api_Pair__0 PC FC @XM E_api_Pair p_slices_ContainsFunc__api_Pair_api_Pair__0) := (sk_tree_Right_1_1__0 1000000).2.2.2.2.1
noncomputable def p_slices_IndexFunc__api_Pair_api_Pair__0 : Ls1 → Int → Option (Int) := (pk_tree_Right_1_1__0 1000000).2.2.2.2.2.1
theorem s_slices_IndexFunc__api_Pair_api_Pair__0 : (C_slices_IndexFunc__api_Pair_api_Pair__0 PC FC @XM E_api_Pair p_slices_IndexFunc__api_Pair_api_Pair__0) := (sk_tree_Right_1_1__0 1000000).2.2.2.2.2.1
noncomputable def p_tree_Right_1_2__0 : S_api_Pair → Int → Option (Bool) := (pk_tree_Right_1_1__0 1000000).2.2.2.2.2.2
theorem s_tree_Right_1_2__0 : (C_tree_Right_1_2__0 PC FC @XM E_api_Value E_api_Pair p_tree_Right_1_2__0) := (sk_tree_Right_1_1__0 1000000).2.2.2.2.2.2.1
noncomputable def p_tree_Right_0  (v0_0 v0_1 : Int) (v0_2 : Str) (v0_3 : Ls0) (v0_4 : Ls1) : Option (Bool) := b_tree_Right_0 Prims.real p_tree_Right_1__0  v0_0 v0_1 v0_2 v0_3 v0_4
theorem s_tree_Right_0   (m : Nat)    : H_tree_Right_0 AT @XM E_api_Value E_api_Pair m  p_tree_Right_0 := by
  intro v0_0 v0_1 v0_2 v0_3 v0_4 out hp stk 
  exact o_tree_Right_0 LW rfl rfl he_E_api_Value hz_E_api_Value he_E_api_Pair hz_E_api_Pair he_E_int hz_E_int p_tree_Right_1__0 s_tree_Right_1__0 stk m v0_0 v0_1 v0_2 v0_3 v0_4 hp
noncomputable def p_tree_Right : S_api_Value → Option (Bool) := fun ⟨v0_0, v0_1, v0_2, v0_3, v0_4⟩ => p_tree_Right_0  v0_0 v0_1 v0_2 v0_3 v0_4
theorem s_tree_Right : (C_tree_Right PC FC @XM E_api_Value E_api_Pair p_tree_Right) := by
  intro _ _ _ _ _ _ hp stk    
  exact pf_of (T := table) (G := glob) (f := 17) rfl rfl (s_tree_Right_0   (topN stk + 1)    hp stk )
noncomputable def p_tree_count_5 (c_tree_count : S_api_Value → Option (Int)) (v3 : Int) (v21 : Ls1) (v22 v23 : Int) : Option (Int) := Prims.real.loop (fun (s : Int × Ls1 × Int × Int) => match s with | (v3, v21, v22, v23) => b_tree_count_5 Prims.real c_tree_count  v3 v21 v22 v23) (v3, v21, v22, v23)
theorem u_tree_count_5 (c_tree_count : S_api_Value → Option (Int)) (v3 : Int) (v21 : Ls1) (v22 v23 : Int) : p_tree_count_5 c_tree_count v3 v21 v22 v23 = match b_tree_count_5 Prims.real c_tree_count  v3 v21 v22 v23 with
    | some (.inl (v3', v21', v22', v23')) => p_tree_count_5 c_tree_count v3' v21' v22' v23'
    | some (.inr r) => some r
    | none => none := by
  show Pr.loop _ _ = _
  rw [Pr.loop_eq]
  try dsimp only
  generalize b_tree_count_5 Prims.real c_tree_count  v3 v21 v22 v23 = y
  cases y with
  | none => rfl
  | some y => cases y <;> rfl
theorem s_tree_count_5 (c_tree_count : S_api_Value → Option (Int)) (h_tree_count : (C_tree_count PC FC @XM E_api_Value E_api_Pair c_tree_count)) (m : Nat)    : H_tree_count_5 AT @XM E_api_Pair m  (p_tree_count_5 c_tree_count) := by
  intro v3 v21 v22 v23 out hp stk 
  refine LW.ind _ (fun (s : Int × Ls1 × Int × Int) o => match s with | (v3, v21, v22, v23) => ∀ (stk : Stk), (A_tree_count_5 AT @XM E_api_Pair m  v3 v21 v22 v23 stk) = (O_tree_count  m  stk) o) (fun s r e => ?_) (fun s t r e ih => ?_) (v3, v21, v22, v23) out hp stk 
  · obtain ⟨v3, v21, v22, v23⟩ := s
    intro stk 
    exact o_tree_count_5 LW rfl rfl he_E_api_Value hz_E_api_Value he_E_api_Pair hz_E_api_Pair he_E_int hz_E_int c_tree_count h_tree_count stk m v3 v21 v22 v23 e
  · obtain ⟨v3, v21, v22, v23⟩ := s; obtain ⟨v3', v21', v22', v23'⟩ := t
    intro stk 
    exact (o_tree_count_5 LW rfl rfl he_E_api_Value hz_E_api_Value he_E_api_Pair hz_E_api_Pair he_E_int hz_E_int c_tree_count h_tree_count stk m v3 v21 v22 v23 e).trans (ih stk )
noncomputable def p_tree_count_1 (c_tree_count : S_api_Value → Option (Int)) (v1_0 v1_1 : Int) (v1_2 : Str) (v1_3 : Ls0) (v1_4 : Ls1) (v3 : Int) (v9 : Ls0) (v10 v11 : Int) : Option (Int) := Prims.real.loop (fun (s : Int × Int × Str × Ls0 × Ls1 × Int × Ls0 × Int × Int) => match s with | (v1_0, v1_1, v1_2, v1_3, v1_4, v3, v9, v10, v11) => b_tree_count_1 Prims.real c_tree_count (p_tree_count_5 c_tree_count) v1_0 v1_1 v1_2 v1_3 v1_4 v3 v9 v10 v11) (v1_0, v1_1, v1_2, v1_3, v1_4, v3, v9, v10, v11)
theorem u_tree_count_1 (c_tree_count : S_api_Value → Option (Int)) (v1_0 v1_1 : Int) (v1_2 : Str) (v1_3 : Ls0) (v1_4 : Ls1) (v3 : Int) (v9 : Ls0) (v10 v11 : Int) : p_tree_count_1 c_tree_count v1_0 v1_1 v1_2 v1_3 v1_4 v3 v9 v10 v11 = match b_tree_count_1 Prims.real c_tree_count (p_tree_count_5 c_tree_count) v1_0 v1_1 v1_2 v1_3 v1_4 v3 v9 v10 v11 with
    | some (.inl (v1_0', v1_1', v1_2', v1_3', v1_4', v3', v9', v10', v11')) => p_tree_count_1 c_tree_count v1_0' v1_1' v1_2' v1_3' v1_4' v3' v9' v10' v11'
    | some (.inr r) => some r
    | none => none := by
  show Pr.loop _ _ = _
  rw [Pr.loop_eq]
  try dsimp only
  generalize b_tree_count_1 Prims.real c_tree_count (p_tree_count_5 c_tree_count) v1_0 v1_1 v1_2 v1_3 v1_4 v3 v9 v10 v11 = y
  cases y with
  | none => rfl
  | some y => cases y <;> rfl
theorem s_tree_count_1 (c_tree_count : S_api_Value → Option (Int)) (h_tree_count : (C_tree_count PC FC @XM E_api_Value E_api_Pair c_tree_count)) (m : Nat)    : H_tree_count_1 AT @XM E_api_Value E_api_Pair m  (p_tree_count_1 c_tree_count) := by
  intro v1_0 v1_1 v1_2 v1_3 v1_4 v3 v9 v10 v11 out hp stk 
  refine LW.ind _ (fun (s : Int × Int × Str × Ls0 × Ls1 × Int × Ls0 × Int × Int) o => match s with | (v1_0, v1_1, v1_2, v1_3, v1_4, v3, v9, v10, v11) => ∀ (stk : Stk), (A_tree_count_1 AT @XM E_api_Value E_api_Pair m  v1_0 v1_1 v1_2 v1_3 v1_4 v3 v9 v10 v11 stk) = (O_tree_count  m  stk) o) (fun s r e => ?_) (fun s t r e ih => ?_) (v1_0, v1_1, v1_2, v1_3, v1_4, v3, v9, v10, v11) out hp stk 
  · obtain ⟨v1_0, v1_1, v1_2, v1_3, v1_4, v3, v9, v10, v11⟩ := s
    intro stk 
    exact o_tree_count_1 LW rfl rfl he_E_api_Value hz_E_api_Value he_E_api_Pair hz_E_api_Pair he_E_int hz_E_int c_tree_count h_tree_count stk m (p_tree_count_5 c_tree_count) v1_0 v1_1 v1_2 v1_3 v1_4 v3 v9 v10 v11 (s_tree_count_5 c_tree_count h_tree_count m ) e
  · obtain ⟨v1_0, v1_1, v1_2, v1_3, v1_4, v3, v9, v10, v11⟩ := s; obtain ⟨v1_0', v1_1', v1_2', v1_3', v1_4', v3', v9', v10', v11'⟩ := t
    intro stk 
    exact (o_tree_count_1 LW rfl rfl he_E_api_Value hz_E_api_Value he_E_api_Pair hz_E_api_Pair he_E_int hz_E_int c_tree_count h_tree_count stk m (p_tree_count_5 c_tree_count) v1_0 v1_1 v1_2 v1_3 v1_4 v3 v9 v10 v11 (s_tree_count_5 c_tree_count h_tree_count m ) e).trans (ih stk )
noncomputable def p_tree_count_0 (c_tree_count : S_api_Value → Option (Int)) (v0_0 v0_1 : Int) (v0_2 : Str) (v0_3 : Ls0) (v0_4 : Ls1) : Option (Int) := b_tree_count_0 Prims.real c_tree_count (p_tree_count_1 c_tree_count) v0_0 v0_1 v0_2 v0_3 v0_4
theorem s_tree_count_0 (c_tree_count : S_api_Value → Option (Int)) (h_tree_count : (C_tree_count PC FC @XM E_api_Value E_api_Pair c_tree_count)) (m : Nat)    : H_tree_count_0 AT @XM E_api_Value E_api_Pair m  (p_tree_count_0 c_tree_count) := by
  intro v0_0 v0_1 v0_2 v0_3 v0_4 out hp stk 
  exact o_tree_count_0 LW rfl rfl he_E_api_Value hz_E_api_Value he_E_api_Pair hz_E_api_Pair he_E_int hz_E_int c_tree_count h_tree_count stk m (p_tree_count_1 c_tree_count) v0_0 v0_1 v0_2 v0_3 v0_4 (s_tree_count_1 c_tree_count h_tree_count m ) hp
noncomputable def pk_tree_count : Nat → (S_api_Value → Option (Int))
  | 0 => fun _ => none
  | k + 1 => fun ⟨v0_0, v0_1, v0_2, v0_3, v0_4⟩ => p_tree_count_0 ((pk_tree_count k)) v0_0 v0_1 v0_2 v0_3 v0_4
theorem sk_tree_count : ∀ k, ((C_tree_count PC FC @XM E_api_Value E_api_Pair ((pk_tree_count k)))) ∧ True
  | 0 => by
    refine ⟨?_, trivial⟩
    · intro _ _ _ _ _ _ hp; exact nomatch (show none = some _ from hp)
  | k + 1 => by
    obtain ⟨ih0, _⟩ := sk_tree_count k
    refine ⟨?_, trivial⟩
    · intro _ _ _ _ _ _ hp stk    
      exact pf_of (T := table) (G := glob) (f := 54) rfl rfl (s_tree_count_0 ((pk_tree_count k)) ih0 (topN stk + 1)    hp stk )
noncomputable def p_tree_count : S_api_Value → Option (Int) := (pk_tree_count 1000000)
theorem s_tree_count : (C_tree_count PC FC @XM E_api_Value E_api_Pair p_tree_count) := (sk_tree_count 1000000).1
noncomputable def p_tree_Count_0  (v0_0 v0_1 : Int) (v0_2 : Str) (v0_3 : Ls0) (v0_4 : Ls1) : Option (Int) := b_tree_Count_0 Prims.real p_tree_Right p_tree_count  v0_0 v0_1 v0_2 v0_3 v0_4
theorem s_tree_Count_0   (m : Nat)    : H_tree_Count_0 AT @XM E_api_Value E_api_Pair m  p_tree_Count_0 := by
  intro v0_0 v0_1 v0_2 v0_3 v0_4 out hp stk 
  exact o_tree_Count_0 LW rfl rfl he_E_api_Value hz_E_api_Value he_E_api_Pair hz_E_api_Pair he_E_int hz_E_int p_tree_Right p_tree_count s_tree_Right s_tree_count stk m v0_0 v0_1 v0_2 v0_3 v0_4 hp
noncomputable def p_tree_Count : S_api_Value → Option (Int) := fun ⟨v0_0, v0_1, v0_2, v0_3, v0_4⟩ => p_tree_Count_0  v0_0 v0_1 v0_2 v0_3 v0_4
theorem s_tree_Count : (C_tree_Count PC FC @XM E_api_Value E_api_Pair p_tree_Count) := by
  intro _ _ _ _ _ _ hp stk    
  exact pf_of (T := table) (G := glob) (f := 18) rfl rfl (s_tree_Count_0   (topN stk + 1)    hp stk )
noncomputable def p_cascadelaw03_awake_0   : Option (Bool) := b_cascadelaw03_awake_0 Prims.real p_tree_Right p_tree_Count  
theorem s_cascadelaw03_awake_0   (m : Nat)    : H_cascadelaw03_awake_0 AT m  p_cascadelaw03_awake_0 := by
  intro  out hp stk 
  exact o_cascadelaw03_awake_0 LW rfl rfl he_E_api_Value hz_E_api_Value he_E_api_Pair hz_E_api_Pair he_E_int hz_E_int p_tree_Right p_tree_Count s_tree_Right s_tree_Count stk m hp
noncomputable def p_cascadelaw03_awake : Option (Bool) := p_cascadelaw03_awake_0 
theorem s_cascadelaw03_awake : (C_cascadelaw03_awake PC FC p_cascadelaw03_awake) := by
  intro _ hp stk    
  exact pf_of (T := table) (G := glob) (f := 12) rfl rfl (s_cascadelaw03_awake_0   (topN stk + 1)    hp stk )
noncomputable def p_cascaderef03_few_10 (c_cascaderef03_few : S_api_Value → Int → Option (Int)) (v1 : Int) : Option (Int) := b_cascaderef03_few_10 Prims.real c_cascaderef03_few  v1
theorem s_cascaderef03_few_10 (c_cascaderef03_few : S_api_Value → Int → Option (Int)) (h_cascaderef03_few : (C_cascaderef03_few PC FC @XM E_api_Value E_api_Pair c_cascaderef03_few)) (m : Nat)    : H_cascaderef03_few_10 AT m  (p_cascaderef03_few_10 c_cascaderef03_few) := by
  intro v1 out hp stk 
  exact o_cascaderef03_few_10 LW rfl rfl he_E_api_Value hz_E_api_Value he_E_api_Pair hz_E_api_Pair he_E_int hz_E_int c_cascaderef03_few h_cascaderef03_few stk m v1 hp
noncomputable def p_cascaderef03_few_6 (c_cascaderef03_few : S_api_Value → Int → Option (Int)) (v1 v2_0 v2_1 : Int) (v2_2 : Str) (v2_3 : Ls0) (v2_4 : Ls1) (v6 : Int) : Option (Int) := Prims.real.loop (fun (s : Int × Int × Int × Str × Ls0 × Ls1 × Int) => match s with | (v1, v2_0, v2_1, v2_2, v2_3, v2_4, v6) => b_cascaderef03_few_6 Prims.real c_cascaderef03_few (p_cascaderef03_few_10 c_cascaderef03_few) v1 v2_0 v2_1 v2_2 v2_3 v2_4 v6) (v1, v2_0, v2_1, v2_2, v2_3, v2_4, v6)
theorem u_cascaderef03_few_6 (c_cascaderef03_few : S_api_Value → Int → Option (Int)) (v1 v2_0 v2_1 : Int) (v2_2 : Str) (v2_3 : Ls0) (v2_4 : Ls1) (v6 : Int) : p_cascaderef03_few_6 c_cascaderef03_few v1 v2_0 v2_1 v2_2 v2_3 v2_4 v6 = match b_cascaderef03_few_6 Prims.real c_cascaderef03_few (p_cascaderef03_few_10 c_cascaderef03_few) v1 v2_0 v2_1 v2_2 v2_3 v2_4 v6 with
    | some (.inl (v1', v2_0', v2_1', v2_2', v2_3', v2_4', v6')) => p_cascaderef03_few_6 c_cascaderef03_few v1' v2_0' v2_1' v2_2' v2_3' v2_4' v6'
    | some (.inr r) => some r
    | none => none := by
  show Pr.loop _ _ = _
  rw [Pr.loop_eq]
  try dsimp only
  generalize b_cascaderef03_few_6 Prims.real c_cascaderef03_few (p_cascaderef03_few_10 c_cascaderef03_few) v1 v2_0 v2_1 v2_2 v2_3 v2_4 v6 = y
  cases y with
  | none => rfl
  | some y => cases y <;> rfl
theorem s_cascaderef03_few_6 (c_cascaderef03_few : S_api_Value → Int → Option (Int)) (h_cascaderef03_few : (C_cascaderef03_few PC FC @XM E_api_Value E_api_Pair c_cascaderef03_few)) (m : Nat)    : H_cascaderef03_few_6 AT @XM E_api_Value E_api_Pair m  (p_cascaderef03_few_6 c_cascaderef03_few) := by
  intro v1 v2_0 v2_1 v2_2 v2_3 v2_4 v6 out hp stk 
  refine LW.ind _ (fun (s : Int × Int × Int × Str × Ls0 × Ls1 × Int) o => match s with | (v1, v2_0, v2_1, v2_2, v2_3, v2_4, v6) => ∀ (stk : Stk), (A_cascaderef03_few_6 AT @XM E_api_Value E_api_Pair m  v1 v2_0 v2_1 v2_2 v2_3 v2_4 v6 stk) = (O_cascaderef03_few  m  stk) o) (fun s r e => ?_) (fun s t r e ih => ?_) (v1, v2_0, v2_1, v2_2, v2_3, v2_4, v6) out hp stk 
  · obtain ⟨v1, v2_0, v2_1, v2_2, v2_3, v2_4, v6⟩ := s
    intro stk 
    exact o_cascaderef03_few_6 LW rfl rfl he_E_api_Value hz_E_api_Value he_E_api_Pair hz_E_api_Pair he_E_int hz_E_int c_cascaderef03_few h_cascaderef03_few stk m (p_cascaderef03_few_10 c_cascaderef03_few) v1 v2_0 v2_1 v2_2 v2_3 v2_4 v6 (s_cascaderef03_few_10 c_cascaderef03_few h_cascaderef03_few m ) e
  · obtain ⟨v1, v2_0, v2_1, v2_2, v2_3, v2_4, v6⟩ := s; obtain ⟨v1', v2_0', v2_1', v2_2', v2_3', v2_4', v6'⟩ := t
    intro stk 
    exact (o_cascaderef03_few_6 LW rfl rfl he_E_api_Value hz_E_api_Value he_E_api_Pair hz_E_api_Pair he_E_int hz_E_int c_cascaderef03_few h_cascaderef03_few stk m (p_cascaderef03_few_10 c_cascaderef03_few) v1 v2_0 v2_1 v2_2 v2_3 v2_4 v6 (s_cascaderef03_few_10 c_cascaderef03_few h_cascaderef03_few m ) e).trans (ih stk )
noncomputable def p_cascaderef03_few_5 (c_cascaderef03_few : S_api_Value → Int → Option (Int)) (v1 v2_0 v2_1 : Int) (v2_2 : Str) (v2_3 : Ls0) (v2_4 : Ls1) : Option (Int) := b_cascaderef03_few_5 Prims.real c_cascaderef03_few (p_cascaderef03_few_6 c_cascaderef03_few) v1 v2_0 v2_1 v2_2 v2_3 v2_4
theorem s_cascaderef03_few_5 (c_cascaderef03_few : S_api_Value → Int → Option (Int)) (h_cascaderef03_few : (C_cascaderef03_few PC FC @XM E_api_Value E_api_Pair c_cascaderef03_few)) (m : Nat)    : H_cascaderef03_few_5 AT @XM E_api_Value E_api_Pair m  (p_cascaderef03_few_5 c_cascaderef03_few) := by
  intro v1 v2_0 v2_1 v2_2 v2_3 v2_4 out hp stk 
  exact o_cascaderef03_few_5 LW rfl rfl he_E_api_Value hz_E_api_Value he_E_api_Pair hz_E_api_Pair he_E_int hz_E_int c_cascaderef03_few h_cascaderef03_few stk m (p_cascaderef03_few_6 c_cascaderef03_few) v1 v2_0 v2_1 v2_2 v2_3 v2_4 (s_cascaderef03_few_6 c_cascaderef03_few h_cascaderef03_few m ) hp
noncomputable def p_cascaderef03_few_2 (c_cascaderef03_few : S_api_Value → Int → Option (Int)) (v1 v2_0 v2_1 : Int) (v2_2 : Str) (v2_3 : Ls0) (v2_4 : Ls1) (v5 : Int) : Option (Int) := Prims.real.loop (fun (s : Int × Int × Int × Str × Ls0 × Ls1 × Int) => match s with | (v1, v2_0, v2_1, v2_2, v2_3, v2_4, v5) => b_cascaderef03_few_2 Prims.real c_cascaderef03_few (p_cascaderef03_few_5 c_cascaderef03_few) v1 v2_0 v2_1 v2_2 v2_3 v2_4 v5) (v1, v2_0, v2_1, v2_2, v2_3, v2_4, v5)
theorem u_cascaderef03_few_2 (c_cascaderef03_few : S_api_Value → Int → Option (Int)) (v1 v2_0 v2_1 : Int) (v2_2 : Str) (v2_3 : Ls0) (v2_4 : Ls1) (v5 : Int) : p_cascaderef03_few_2 c_cascaderef03_few v1 v2_0 v2_1 v2_2 v2_3 v2_4 v5 = match b_cascaderef03_few_2 Prims.real c_cascaderef03_few (p_cascaderef03_few_5 c_cascaderef03_few) v1 v2_0 v2_1 v2_2 v2_3 v2_4 v5 with
    | some (.inl (v1', v2_0', v2_1', v2_2', v2_3', v2_4', v5')) => p_cascaderef03_few_2 c_cascaderef03_few v1' v2_0' v2_1' v2_2' v2_3' v2_4' v5'
    | some (.inr r) => some r
    | none => none := by
  show Pr.loop _ _ = _
  rw [Pr.loop_eq]
  try dsimp only
  generalize b_cascaderef03_few_2 Prims.real c_cascaderef03_few (p_cascaderef03_few_5 c_cascaderef03_few) v1 v2_0 v2_1 v2_2 v2_3 v2_4 v5 = y
  cases y with
  | none => rfl
  | some y => cases y <;> rfl
theorem s_cascaderef03_few_2 (c_cascaderef03_few : S_api_Value → Int → Option (Int)) (h_cascaderef03_few : (C_cascaderef03_few PC FC @XM E_api_Value E_api_Pair c_cascaderef03_few)) (m : Nat)    : H_cascaderef03_few_2 AT @XM E_api_Value E_api_Pair m  (p_cascaderef03_few_2 c_cascaderef03_few) := by
  intro v1 v2_0 v2_1 v2_2 v2_3 v2_4 v5 out hp stk 
  refine LW.ind _ (fun (s : Int × Int × Int × Str × Ls0 × Ls1 × Int) o => match s with | (v1, v2_0, v2_1, v2_2, v2_3, v2_4, v5) => ∀ (stk : Stk), (A_cascaderef03_few_2 AT @XM E_api_Value E_api_Pair m  v1 v2_0 v2_1 v2_2 v2_3 v2_4 v5 stk) = (O_cascaderef03_few  m  stk) o) (fun s r e => ?_) (fun s t r e ih => ?_) (v1, v2_0, v2_1, v2_2, v2_3, v2_4, v5) out hp stk 
  · obtain ⟨v1, v2_0, v2_1, v2_2, v2_3, v2_4, v5⟩ := s
    intro stk 
    exact o_cascaderef03_few_2 LW rfl rfl he_E_api_Value hz_E_api_Value he_E_api_Pair hz_E_api_Pair he_E_int hz_E_int c_cascaderef03_few h_cascaderef03_few stk m (p_cascaderef03_few_5 c_cascaderef03_few) v1 v2_0 v2_1 v2_2 v2_3 v2_4 v5 (s_cascaderef03_few_5 c_cascaderef03_few h_cascaderef03_few m ) e
  · obtain ⟨v1, v2_0, v2_1, v2_2, v2_3, v2_4, v5⟩ := s; obtain ⟨v1', v2_0', v2_1', v2_2', v2_3', v2_4', v5'⟩ := t
    intro stk 
    exact (o_cascaderef03_few_2 LW rfl rfl he_E_api_Value hz_E_api_Value he_E_api_Pair hz_E_api_Pair he_E_int hz_E_int c_cascaderef03_few h_cascaderef03_few stk m (p_cascaderef03_few_5 c_cascaderef03_few) v1 v2_0 v2_1 v2_2 v2_3 v2_4 v5 (s_cascaderef03_few_5 c_cascaderef03_few h_cascaderef03_few m ) e).trans (ih stk )
noncomputable def p_cascaderef03_few_0 (c_cascaderef03_few : S_api_Value → Int → Option (Int)) (v0_0 v0_1 : Int) (v0_2 : Str) (v0_3 : Ls0) (v0_4 : Ls1) (v1 : Int) : Option (Int) := b_cascaderef03_few_0 Prims.real c_cascaderef03_few (p_cascaderef03_few_2 c_cascaderef03_few) v0_0 v0_1 v0_2 v0_3 v0_4 v1
theorem s_cascaderef03_few_0 (c_cascaderef03_few : S_api_Value → Int → Option (Int)) (h_cascaderef03_few : (C_cascaderef03_few PC FC @XM E_api_Value E_api_Pair c_cascaderef03_few)) (m : Nat)    : H_cascaderef03_few_0 AT @XM E_api_Value E_api_Pair m  (p_cascaderef03_few_0 c_cascaderef03_few) := by
  intro v0_0 v0_1 v0_2 v0_3 v0_4 v1 out hp stk 
  exact o_cascaderef03_few_0 LW rfl rfl he_E_api_Value hz_E_api_Value he_E_api_Pair hz_E_api_Pair he_E_int hz_E_int c_cascaderef03_few h_cascaderef03_few stk m (p_cascaderef03_few_2 c_cascaderef03_few) v0_0 v0_1 v0_2 v0_3 v0_4 v1 (s_cascaderef03_few_2 c_cascaderef03_few h_cascaderef03_few m ) hp
noncomputable def pk_cascaderef03_few : Nat → (S_api_Value → Int → Option (Int))
  | 0 => fun _ _ => none
  | k + 1 => fun ⟨v0_0, v0_1, v0_2, v0_3, v0_4⟩ v1 => p_cascaderef03_few_0 ((pk_cascaderef03_few k)) v0_0 v0_1 v0_2 v0_3 v0_4 v1
theorem sk_cascaderef03_few : ∀ k, ((C_cascaderef03_few PC FC @XM E_api_Value E_api_Pair ((pk_cascaderef03_few k)))) ∧ True
  | 0 => by
    refine ⟨?_, trivial⟩
    · intro _ _ _ _ _ _ _ hp; exact nomatch (show none = some _ from hp)
  | k + 1 => by
    obtain ⟨ih0, _⟩ := sk_cascaderef03_few k
    refine ⟨?_, trivial⟩
    · intro _ _ _ _ _ _ _ hp stk    
      exact pf_of (T := table) (G := glob) (f := 43) rfl rfl (s_cascaderef03_few_0 ((pk_cascaderef03_few k)) ih0 (topN stk + 1)    hp stk )
noncomputable def p_cascaderef03_few : S_api_Value → Int → Option (Int) := (pk_cascaderef03_few 1000000)
theorem s_cascaderef03_few : (C_cascaderef03_few PC FC @XM E_api_Value E_api_Pair p_cascaderef03_few) := (sk_cascaderef03_few 1000000).1
noncomputable def p_cascaderef03_Few_0  (v0_0 v0_1 : Int) (v0_2 : Str) (v0_3 : Ls0) (v0_4 : Ls1) (v1 : Int) : Option (Bool) := b_cascaderef03_Few_0 Prims.real p_cascaderef03_few  v0_0 v0_1 v0_2 v0_3 v0_4 v1
theorem s_cascaderef03_Few_0   (m : Nat)    : H_cascaderef03_Few_0 AT @XM E_api_Value E_api_Pair m  p_cascaderef03_Few_0 := by
  intro v0_0 v0_1 v0_2 v0_3 v0_4 v1 out hp stk 
  exact o_cascaderef03_Few_0 LW rfl rfl he_E_api_Value hz_E_api_Value he_E_api_Pair hz_E_api_Pair he_E_int hz_E_int p_cascaderef03_few s_cascaderef03_few stk m v0_0 v0_1 v0_2 v0_3 v0_4 v1 hp
noncomputable def p_cascaderef03_Few : S_api_Value → Int → Option (Bool) := fun ⟨v0_0, v0_1, v0_2, v0_3, v0_4⟩ v1 => p_cascaderef03_Few_0  v0_0 v0_1 v0_2 v0_3 v0_4 v1
theorem s_cascaderef03_Few : (C_cascaderef03_Few PC FC @XM E_api_Value E_api_Pair p_cascaderef03_Few) := by
  intro _ _ _ _ _ _ _ hp stk    
  exact pf_of (T := table) (G := glob) (f := 13) rfl rfl (s_cascaderef03_Few_0   (topN stk + 1)    hp stk )
noncomputable def p_cascaderef01_Size_11  (v7 v8 : Int) : Option (Int × Int) := b_cascaderef01_Size_11 Prims.real   v7 v8
theorem s_cascaderef01_Size_11   (m : Nat)    : H_cascaderef01_Size_11 AT m  p_cascaderef01_Size_11 := by
  intro v7 v8 out hp stk 
  exact o_cascaderef01_Size_11 LW rfl rfl he_E_api_Value hz_E_api_Value he_E_api_Pair hz_E_api_Pair he_E_int hz_E_int stk m v7 v8 hp
noncomputable def p_cascaderef01_Size_6  (v0 : Str) (v1 v7 v8 v9 v10 : Int) : Option (Int × Int) := Prims.real.loop (fun (s : Str × Int × Int × Int × Int × Int) => match s with | (v0, v1, v7, v8, v9, v10) => b_cascaderef01_Size_6 Prims.real  p_cascaderef01_Size_11 v0 v1 v7 v8 v9 v10) (v0, v1, v7, v8, v9, v10)
theorem u_cascaderef01_Size_6  (v0 : Str) (v1 v7 v8 v9 v10 : Int) : p_cascaderef01_Size_6  v0 v1 v7 v8 v9 v10 = match b_cascaderef01_Size_6 Prims.real  p_cascaderef01_Size_11 v0 v1 v7 v8 v9 v10 with
    | some (.inl (v0', v1', v7', v8', v9', v10')) => p_cascaderef01_Size_6  v0' v1' v7' v8' v9' v10'
    | some (.inr r) => some r
    | none => none := by
  show Pr.loop _ _ = _
  rw [Pr.loop_eq]
  try dsimp only
  generalize b_cascaderef01_Size_6 Prims.real  p_cascaderef01_Size_11 v0 v1 v7 v8 v9 v10 = y
  cases y with
  | none => rfl
  | some y => cases y <;> rfl
theorem s_cascaderef01_Size_6   (m : Nat)    : H_cascaderef01_Size_6 AT m  p_cascaderef01_Size_6 := by
  intro v0 v1 v7 v8 v9 v10 out hp stk 
  refine LW.ind _ (fun (s : Str × Int × Int × Int × Int × Int) o => match s with | (v0, v1, v7, v8, v9, v10) => ∀ (stk : Stk), (A_cascaderef01_Size_6 AT m  v0 v1 v7 v8 v9 v10 stk) = (O_cascaderef01_Size  m  stk) o) (fun s r e => ?_) (fun s t r e ih => ?_) (v0, v1, v7, v8, v9, v10) out hp stk 
  · obtain ⟨v0, v1, v7, v8, v9, v10⟩ := s
    intro stk 
    exact o_cascaderef01_Size_6 LW rfl rfl he_E_api_Value hz_E_api_Value he_E_api_Pair hz_E_api_Pair he_E_int hz_E_int stk m p_cascaderef01_Size_11 v0 v1 v7 v8 v9 v10 (s_cascaderef01_Size_11 m ) e
  · obtain ⟨v0, v1, v7, v8, v9, v10⟩ := s; obtain ⟨v0', v1', v7', v8', v9', v10'⟩ := t
    intro stk 
    exact (o_cascaderef01_Size_6 LW rfl rfl he_E_api_Value hz_E_api_Value he_E_api_Pair hz_E_api_Pair he_E_int hz_E_int stk m p_cascaderef01_Size_11 v0 v1 v7 v8 v9 v10 (s_cascaderef01_Size_11 m ) e).trans (ih stk )
noncomputable def p_cascaderef01_Size_4  (v0 : Str) (v1 v7 v8 v9 : Int) : Option (Int × Int) := b_cascaderef01_Size_4 Prims.real  p_cascaderef01_Size_6 v0 v1 v7 v8 v9
theorem s_cascaderef01_Size_4   (m : Nat)    : H_cascaderef01_Size_4 AT m  p_cascaderef01_Size_4 := by
  intro v0 v1 v7 v8 v9 out hp stk 
  exact o_cascaderef01_Size_4 LW rfl rfl he_E_api_Value hz_E_api_Value he_E_api_Pair hz_E_api_Pair he_E_int hz_E_int stk m p_cascaderef01_Size_6 v0 v1 v7 v8 v9 (s_cascaderef01_Size_6 m ) hp
noncomputable def p_cascaderef01_Size_3  (v0 : Str) (v1 v6 v7 v8 v9 : Int) : Option (Int × Int) := b_cascaderef01_Size_3 Prims.real  p_cascaderef01_Size_4 v0 v1 v6 v7 v8 v9
theorem s_cascaderef01_Size_3   (m : Nat)    : H_cascaderef01_Size_3 AT m  p_cascaderef01_Size_3 := by
  intro v0 v1 v6 v7 v8 v9 out hp stk 
  exact o_cascaderef01_Size_3 LW rfl rfl he_E_api_Value hz_E_api_Value he_E_api_Pair hz_E_api_Pair he_E_int hz_E_int stk m p_cascaderef01_Size_4 v0 v1 v6 v7 v8 v9 (s_cascaderef01_Size_4 m ) hp
noncomputable def p_cascaderef01_Size_2  (v0 : Str) (v1 v6 v7 v8 v9 : Int) : Option (Int × Int) := b_cascaderef01_Size_2 Prims.real  p_cascaderef01_Size_3 v0 v1 v6 v7 v8 v9
theorem s_cascaderef01_Size_2   (m : Nat)    : H_cascaderef01_Size_2 AT m  p_cascaderef01_Size_2 := by
  intro v0 v1 v6 v7 v8 v9 out hp stk 
  exact o_cascaderef01_Size_2 LW rfl rfl he_E_api_Value hz_E_api_Value he_E_api_Pair hz_E_api_Pair he_E_int hz_E_int stk m p_cascaderef01_Size_3 v0 v1 v6 v7 v8 v9 (s_cascaderef01_Size_3 m ) hp
noncomputable def p_cascaderef01_Size_0  (v0 : Str) (v1 : Int) : Option (Int × Int) := b_cascaderef01_Size_0 Prims.real  p_cascaderef01_Size_2 v0 v1
theorem s_cascaderef01_Size_0   (m : Nat)    : H_cascaderef01_Size_0 AT m  p_cascaderef01_Size_0 := by
  intro v0 v1 out hp stk 
  exact o_cascaderef01_Size_0 LW rfl rfl he_E_api_Value hz_E_api_Value he_E_api_Pair hz_E_api_Pair he_E_int hz_E_int stk m p_cascaderef01_Size_2 v0 v1 (s_cascaderef01_Size_2 m ) hp
noncomputable def p_cascaderef01_Size : Str → Int → Option (Int × Int) := fun v0 v1 => p_cascaderef01_Size_0  v0 v1
theorem s_cascaderef01_Size : (C_cascaderef01_Size PC FC p_cascaderef01_Size) := by
  intro _ _ _ _ hp stk    
  exact pf_of (T := table) (G := glob) (f := 71) rfl rfl (s_cascaderef01_Size_0   (topN stk + 1)    hp stk )
noncomputable def p_cascaderef01_Bad_1  (v0 : Str) (v3 : Int) : Option (Int) := Prims.real.loop (fun (s : Str × Int) => match s with | (v0, v3) => b_cascaderef01_Bad_1 Prims.real p_cascaderef01_Size  v0 v3) (v0, v3)
theorem u_cascaderef01_Bad_1  (v0 : Str) (v3 : Int) : p_cascaderef01_Bad_1  v0 v3 = match b_cascaderef01_Bad_1 Prims.real p_cascaderef01_Size  v0 v3 with
    | some (.inl (v0', v3')) => p_cascaderef01_Bad_1  v0' v3'
    | some (.inr r) => some r
    | none => none := by
  show Pr.loop _ _ = _
  rw [Pr.loop_eq]
  try dsimp only
  generalize b_cascaderef01_Bad_1 Prims.real p_cascaderef01_Size  v0 v3 = y
  cases y with
  | none => rfl
  | some y => cases y <;> rfl
theorem s_cascaderef01_Bad_1   (m : Nat)    : H_cascaderef01_Bad_1 AT m  p_cascaderef01_Bad_1 := by
  intro v0 v3 out hp stk 
  refine LW.ind _ (fun (s : Str × Int) o => match s with | (v0, v3) => ∀ (stk : Stk), (A_cascaderef01_Bad_1 AT m  v0 v3 stk) = (O_cascaderef01_Bad  m  stk) o) (fun s r e => ?_) (fun s t r e ih => ?_) (v0, v3) out hp stk 
  · obtain ⟨v0, v3⟩ := s
    intro stk 
    exact o_cascaderef01_Bad_1 LW rfl rfl he_E_api_Value hz_E_api_Value he_E_api_Pair hz_E_api_Pair he_E_int hz_E_int p_cascaderef01_Size s_cascaderef01_Size stk m v0 v3 e
  · obtain ⟨v0, v3⟩ := s; obtain ⟨v0', v3'⟩ := t
    intro stk 
    exact (o_cascaderef01_Bad_1 LW rfl rfl he_E_api_Value hz_E_api_Value he_E_api_Pair hz_E_api_Pair he_E_int hz_E_int p_cascaderef01_Size s_cascaderef01_Size stk m v0 v3 e).trans (ih stk )
noncomputable def p_cascaderef01_Bad_0  (v0 : Str) : Option (Int) := b_cascaderef01_Bad_0 Prims.real p_cascaderef01_Size p_cascaderef01_Bad_1 v0
theorem s_cascaderef01_Bad_0   (m : Nat)    : H_cascaderef01_Bad_0 AT m  p_cascaderef01_Bad_0 := by
  intro v0 out hp stk 
  exact o_cascaderef01_Bad_0 LW rfl rfl he_E_api_Value hz_E_api_Value he_E_api_Pair hz_E_api_Pair he_E_int hz_E_int p_cascaderef01_Size s_cascaderef01_Size stk m p_cascaderef01_Bad_1 v0 (s_cascaderef01_Bad_1 m ) hp
noncomputable def p_cascaderef01_Bad : Str → Option (Int) := fun v0 => p_cascaderef01_Bad_0  v0
theorem s_cascaderef01_Bad : (C_cascaderef01_Bad PC FC p_cascaderef01_Bad) := by
  intro _ _ hp stk    
  exact pf_of (T := table) (G := glob) (f := 59) rfl rfl (s_cascaderef01_Bad_0   (topN stk + 1)    hp stk )
noncomputable def p_cascaderef01_Right_0  (v0 : Str) : Option (Bool) := b_cascaderef01_Right_0 Prims.real p_cascaderef01_Bad  v0
theorem s_cascaderef01_Right_0   (m : Nat)    : H_cascaderef01_Right_0 AT m  p_cascaderef01_Right_0 := by
  intro v0 out hp stk 
  exact o_cascaderef01_Right_0 LW rfl rfl he_E_api_Value hz_E_api_Value he_E_api_Pair hz_E_api_Pair he_E_int hz_E_int p_cascaderef01_Bad s_cascaderef01_Bad stk m v0 hp
noncomputable def p_cascaderef01_Right : Str → Option (Bool) := fun v0 => p_cascaderef01_Right_0  v0
theorem s_cascaderef01_Right : (C_cascaderef01_Right PC FC p_cascaderef01_Right) := by
  intro _ _ hp stk    
  exact pf_of (T := table) (G := glob) (f := 24) rfl rfl (s_cascaderef01_Right_0   (topN stk + 1)    hp stk )
noncomputable def p_cascaderef03_right_11 (c_cascaderef03_right : S_api_Value → Int → Option (Bool)) (v1 v2_0 v2_1 : Int) (v2_2 : Str) (v2_3 : Ls0) (v2_4 : Ls1) (v6 v7 : Int) : Option ((Int × Int × Int × Str × Ls0 × Ls1 × Int) ⊕ (Bool)) := Prims.real.loop (fun (s : Int × Int × Int × Str × Ls0 × Ls1 × Int × Int) => match s with | (v1, v2_0, v2_1, v2_2, v2_3, v2_4, v6, v7) => b_cascaderef03_right_11 Prims.real p_cascaderef01_Right c_cascaderef03_right  v1 v2_0 v2_1 v2_2 v2_3 v2_4 v6 v7) (v1, v2_0, v2_1, v2_2, v2_3, v2_4, v6, v7)
theorem u_cascaderef03_right_11 (c_cascaderef03_right : S_api_Value → Int → Option (Bool)) (v1 v2_0 v2_1 : Int) (v2_2 : Str) (v2_3 : Ls0) (v2_4 : Ls1) (v6 v7 : Int) : p_cascaderef03_right_11 c_cascaderef03_right v1 v2_0 v2_1 v2_2 v2_3 v2_4 v6 v7 = match b_cascaderef03_right_11 Prims.real p_cascaderef01_Right c_cascaderef03_right  v1 v2_0 v2_1 v2_2 v2_3 v2_4 v6 v7 with
    | some (.inl (v1', v2_0', v2_1', v2_2', v2_3', v2_4', v6', v7')) => p_cascaderef03_right_11 c_cascaderef03_right v1' v2_0' v2_1' v2_2' v2_3' v2_4' v6' v7'
    | some (.inr r) => some r
    | none => none := by
  show Pr.loop _ _ = _
  rw [Pr.loop_eq]
  try dsimp only
  generalize b_cascaderef03_right_11 Prims.real p_cascaderef01_Right c_cascaderef03_right  v1 v2_0 v2_1 v2_2 v2_3 v2_4 v6 v7 = y
  cases y with
  | none => rfl
  | some y => cases y <;> rfl
theorem s_cascaderef03_right_11 (c_cascaderef03_right : S_api_Value → Int → Option (Bool)) (h_cascaderef03_right : (C_cascaderef03_right PC FC @XM E_api_Value E_api_Pair c_cascaderef03_right)) (m : Nat)    : H_cascaderef03_right_11 AT @XM E_api_Value E_api_Pair m  (p_cascaderef03_right_11 c_cascaderef03_right) := by
  intro v1 v2_0 v2_1 v2_2 v2_3 v2_4 v6 v7 out hp stk 
  refine LW.ind _ (fun (s : Int × Int × Int × Str × Ls0 × Ls1 × Int × Int) o => match s with | (v1, v2_0, v2_1, v2_2, v2_3, v2_4, v6, v7) => ∀ (stk : Stk), (A_cascaderef03_right_11 AT @XM E_api_Value E_api_Pair m  v1 v2_0 v2_1 v2_2 v2_3 v2_4 v6 v7 stk) = (Sum.elim (fun (v1, v2_0, v2_1, v2_2, v2_3, v2_4, v6) => (A_cascaderef03_right_8 AT @XM E_api_Value E_api_Pair m  v1 v2_0 v2_1 v2_2 v2_3 v2_4 v6 stk)) (O_cascaderef03_right  m  stk)) o) (fun s r e => ?_) (fun s t r e ih => ?_) (v1, v2_0, v2_1, v2_2, v2_3, v2_4, v6, v7) out hp stk 
  · obtain ⟨v1, v2_0, v2_1, v2_2, v2_3, v2_4, v6, v7⟩ := s
    intro stk 
    exact o_cascaderef03_right_11 LW rfl rfl he_E_api_Value hz_E_api_Value he_E_api_Pair hz_E_api_Pair he_E_int hz_E_int p_cascaderef01_Right c_cascaderef03_right s_cascaderef01_Right h_cascaderef03_right stk m v1 v2_0 v2_1 v2_2 v2_3 v2_4 v6 v7 e
  · obtain ⟨v1, v2_0, v2_1, v2_2, v2_3, v2_4, v6, v7⟩ := s; obtain ⟨v1', v2_0', v2_1', v2_2', v2_3', v2_4', v6', v7'⟩ := t
    intro stk 
    exact (o_cascaderef03_right_11 LW rfl rfl he_E_api_Value hz_E_api_Value he_E_api_Pair hz_E_api_Pair he_E_int hz_E_int p_cascaderef01_Right c_cascaderef03_right s_cascaderef01_Right h_cascaderef03_right stk m v1 v2_0 v2_1 v2_2 v2_3 v2_4 v6 v7 e).trans (ih stk )
noncomputable def p_cascaderef03_right_8 (c_cascaderef03_right : S_api_Value → Int → Option (Bool)) (v1 v2_0 v2_1 : Int) (v2_2 : Str) (v2_3 : Ls0) (v2_4 : Ls1) (v6 : Int) : Option (Bool) := Prims.real.loop (fun (s : Int × Int × Int × Str × Ls0 × Ls1 × Int) => match s with | (v1, v2_0, v2_1, v2_2, v2_3, v2_4, v6) => b_cascaderef03_right_8 Prims.real p_cascaderef01_Right c_cascaderef03_right (p_cascaderef03_right_11 c_cascaderef03_right) v1 v2_0 v2_1 v2_2 v2_3 v2_4 v6) (v1, v2_0, v2_1, v2_2, v2_3, v2_4, v6)
theorem u_cascaderef03_right_8 (c_cascaderef03_right : S_api_Value → Int → Option (Bool)) (v1 v2_0 v2_1 : Int) (v2_2 : Str) (v2_3 : Ls0) (v2_4 : Ls1) (v6 : Int) : p_cascaderef03_right_8 c_cascaderef03_right v1 v2_0 v2_1 v2_2 v2_3 v2_4 v6 = match b_cascaderef03_right_8 Prims.real p_cascaderef01_Right c_cascaderef03_right (p_cascaderef03_right_11 c_cascaderef03_right) v1 v2_0 v2_1 v2_2 v2_3 v2_4 v6 with
    | some (.inl (v1', v2_0', v2_1', v2_2', v2_3', v2_4', v6')) => p_cascaderef03_right_8 c_cascaderef03_right v1' v2_0' v2_1' v2_2' v2_3' v2_4' v6'
    | some (.inr r) => some r
    | none => none := by
  show Pr.loop _ _ = _
  rw [Pr.loop_eq]
  try dsimp only
  generalize b_cascaderef03_right_8 Prims.real p_cascaderef01_Right c_cascaderef03_right (p_cascaderef03_right_11 c_cascaderef03_right) v1 v2_0 v2_1 v2_2 v2_3 v2_4 v6 = y
  cases y with
  | none => rfl
  | some y => cases y <;> rfl
theorem s_cascaderef03_right_8 (c_cascaderef03_right : S_api_Value → Int → Option (Bool)) (h_cascaderef03_right : (C_cascaderef03_right PC FC @XM E_api_Value E_api_Pair c_cascaderef03_right)) (m : Nat)    : H_cascaderef03_right_8 AT @XM E_api_Value E_api_Pair m  (p_cascaderef03_right_8 c_cascaderef03_right) := by
  intro v1 v2_0 v2_1 v2_2 v2_3 v2_4 v6 out hp stk 
  refine LW.ind _ (fun (s : Int × Int × Int × Str × Ls0 × Ls1 × Int) o => match s with | (v1, v2_0, v2_1, v2_2, v2_3, v2_4, v6) => ∀ (stk : Stk), (A_cascaderef03_right_8 AT @XM E_api_Value E_api_Pair m  v1 v2_0 v2_1 v2_2 v2_3 v2_4 v6 stk) = (O_cascaderef03_right  m  stk) o) (fun s r e => ?_) (fun s t r e ih => ?_) (v1, v2_0, v2_1, v2_2, v2_3, v2_4, v6) out hp stk 
  · obtain ⟨v1, v2_0, v2_1, v2_2, v2_3, v2_4, v6⟩ := s
    intro stk 
    exact o_cascaderef03_right_8 LW rfl rfl he_E_api_Value hz_E_api_Value he_E_api_Pair hz_E_api_Pair he_E_int hz_E_int p_cascaderef01_Right c_cascaderef03_right s_cascaderef01_Right h_cascaderef03_right stk m (p_cascaderef03_right_11 c_cascaderef03_right) v1 v2_0 v2_1 v2_2 v2_3 v2_4 v6 (s_cascaderef03_right_11 c_cascaderef03_right h_cascaderef03_right m ) e
  · obtain ⟨v1, v2_0, v2_1, v2_2, v2_3, v2_4, v6⟩ := s; obtain ⟨v1', v2_0', v2_1', v2_2', v2_3', v2_4', v6'⟩ := t
    intro stk 
    exact (o_cascaderef03_right_8 LW rfl rfl he_E_api_Value hz_E_api_Value he_E_api_Pair hz_E_api_Pair he_E_int hz_E_int p_cascaderef01_Right c_cascaderef03_right s_cascaderef01_Right h_cascaderef03_right stk m (p_cascaderef03_right_11 c_cascaderef03_right) v1 v2_0 v2_1 v2_2 v2_3 v2_4 v6 (s_cascaderef03_right_11 c_cascaderef03_right h_cascaderef03_right m ) e).trans (ih stk )
noncomputable def p_cascaderef03_right_4 (c_cascaderef03_right : S_api_Value → Int → Option (Bool)) (v1 v2_0 v2_1 : Int) (v2_2 : Str) (v2_3 : Ls0) (v2_4 : Ls1) (v5 : Int) : Option (Bool) := Prims.real.loop (fun (s : Int × Int × Int × Str × Ls0 × Ls1 × Int) => match s with | (v1, v2_0, v2_1, v2_2, v2_3, v2_4, v5) => b_cascaderef03_right_4 Prims.real p_cascaderef01_Right c_cascaderef03_right (p_cascaderef03_right_8 c_cascaderef03_right) v1 v2_0 v2_1 v2_2 v2_3 v2_4 v5) (v1, v2_0, v2_1, v2_2, v2_3, v2_4, v5)
theorem u_cascaderef03_right_4 (c_cascaderef03_right : S_api_Value → Int → Option (Bool)) (v1 v2_0 v2_1 : Int) (v2_2 : Str) (v2_3 : Ls0) (v2_4 : Ls1) (v5 : Int) : p_cascaderef03_right_4 c_cascaderef03_right v1 v2_0 v2_1 v2_2 v2_3 v2_4 v5 = match b_cascaderef03_right_4 Prims.real p_cascaderef01_Right c_cascaderef03_right (p_cascaderef03_right_8 c_cascaderef03_right) v1 v2_0 v2_1 v2_2 v2_3 v2_4 v5 with
    | some (.inl (v1', v2_0', v2_1', v2_2', v2_3', v2_4', v5')) => p_cascaderef03_right_4 c_cascaderef03_right v1' v2_0' v2_1' v2_2' v2_3' v2_4' v5'
    | some (.inr r) => some r
    | none => none := by
  show Pr.loop _ _ = _
  rw [Pr.loop_eq]
  try dsimp only
  generalize b_cascaderef03_right_4 Prims.real p_cascaderef01_Right c_cascaderef03_right (p_cascaderef03_right_8 c_cascaderef03_right) v1 v2_0 v2_1 v2_2 v2_3 v2_4 v5 = y
  cases y with
  | none => rfl
  | some y => cases y <;> rfl
theorem s_cascaderef03_right_4 (c_cascaderef03_right : S_api_Value → Int → Option (Bool)) (h_cascaderef03_right : (C_cascaderef03_right PC FC @XM E_api_Value E_api_Pair c_cascaderef03_right)) (m : Nat)    : H_cascaderef03_right_4 AT @XM E_api_Value E_api_Pair m  (p_cascaderef03_right_4 c_cascaderef03_right) := by
  intro v1 v2_0 v2_1 v2_2 v2_3 v2_4 v5 out hp stk 
  refine LW.ind _ (fun (s : Int × Int × Int × Str × Ls0 × Ls1 × Int) o => match s with | (v1, v2_0, v2_1, v2_2, v2_3, v2_4, v5) => ∀ (stk : Stk), (A_cascaderef03_right_4 AT @XM E_api_Value E_api_Pair m  v1 v2_0 v2_1 v2_2 v2_3 v2_4 v5 stk) = (O_cascaderef03_right  m  stk) o) (fun s r e => ?_) (fun s t r e ih => ?_) (v1, v2_0, v2_1, v2_2, v2_3, v2_4, v5) out hp stk 
  · obtain ⟨v1, v2_0, v2_1, v2_2, v2_3, v2_4, v5⟩ := s
    intro stk 
    exact o_cascaderef03_right_4 LW rfl rfl he_E_api_Value hz_E_api_Value he_E_api_Pair hz_E_api_Pair he_E_int hz_E_int p_cascaderef01_Right c_cascaderef03_right s_cascaderef01_Right h_cascaderef03_right stk m (p_cascaderef03_right_8 c_cascaderef03_right) v1 v2_0 v2_1 v2_2 v2_3 v2_4 v5 (s_cascaderef03_right_8 c_cascaderef03_right h_cascaderef03_right m ) e
  · obtain ⟨v1, v2_0, v2_1, v2_2, v2_3, v2_4, v5⟩ := s; obtain ⟨v1', v2_0', v2_1', v2_2', v2_3', v2_4', v5'⟩ := t
    intro stk 
    exact (o_cascaderef03_right_4 LW rfl rfl he_E_api_Value hz_E_api_Value he_E_api_Pair hz_E_api_Pair he_E_int hz_E_int p_cascaderef01_Right c_cascaderef03_right s_cascaderef01_Right h_cascaderef03_right stk m (p_cascaderef03_right_8 c_cascaderef03_right) v1 v2_0 v2_1 v2_2 v2_3 v2_4 v5 (s_cascaderef03_right_8 c_cascaderef03_right h_cascaderef03_right m ) e).trans (ih stk )
noncomputable def p_cascaderef03_right_3 (c_cascaderef03_right : S_api_Value → Int → Option (Bool)) (v1 v2_0 v2_1 : Int) (v2_2 : Str) (v2_3 : Ls0) (v2_4 : Ls1) : Option (Bool) := b_cascaderef03_right_3 Prims.real p_cascaderef01_Right c_cascaderef03_right (p_cascaderef03_right_4 c_cascaderef03_right) v1 v2_0 v2_1 v2_2 v2_3 v2_4
theorem s_cascaderef03_right_3 (c_cascaderef03_right : S_api_Value → Int → Option (Bool)) (h_cascaderef03_right : (C_cascaderef03_right PC FC @XM E_api_Value E_api_Pair c_cascaderef03_right)) (m : Nat)    : H_cascaderef03_right_3 AT @XM E_api_Value E_api_Pair m  (p_cascaderef03_right_3 c_cascaderef03_right) := by
  intro v1 v2_0 v2_1 v2_2 v2_3 v2_4 out hp stk 
  exact o_cascaderef03_right_3 LW rfl rfl he_E_api_Value hz_E_api_Value he_E_api_Pair hz_E_api_Pair he_E_int hz_E_int p_cascaderef01_Right c_cascaderef03_right s_cascaderef01_Right h_cascaderef03_right stk m (p_cascaderef03_right_4 c_cascaderef03_right) v1 v2_0 v2_1 v2_2 v2_3 v2_4 (s_cascaderef03_right_4 c_cascaderef03_right h_cascaderef03_right m ) hp
noncomputable def p_cascaderef03_right_2 (c_cascaderef03_right : S_api_Value → Int → Option (Bool)) (v1 v2_0 v2_1 : Int) (v2_2 : Str) (v2_3 : Ls0) (v2_4 : Ls1) : Option (Bool) := b_cascaderef03_right_2 Prims.real p_cascaderef01_Right c_cascaderef03_right (p_cascaderef03_right_3 c_cascaderef03_right) v1 v2_0 v2_1 v2_2 v2_3 v2_4
theorem s_cascaderef03_right_2 (c_cascaderef03_right : S_api_Value → Int → Option (Bool)) (h_cascaderef03_right : (C_cascaderef03_right PC FC @XM E_api_Value E_api_Pair c_cascaderef03_right)) (m : Nat)    : H_cascaderef03_right_2 AT @XM E_api_Value E_api_Pair m  (p_cascaderef03_right_2 c_cascaderef03_right) := by
  intro v1 v2_0 v2_1 v2_2 v2_3 v2_4 out hp stk 
  exact o_cascaderef03_right_2 LW rfl rfl he_E_api_Value hz_E_api_Value he_E_api_Pair hz_E_api_Pair he_E_int hz_E_int p_cascaderef01_Right c_cascaderef03_right s_cascaderef01_Right h_cascaderef03_right stk m (p_cascaderef03_right_3 c_cascaderef03_right) v1 v2_0 v2_1 v2_2 v2_3 v2_4 (s_cascaderef03_right_3 c_cascaderef03_right h_cascaderef03_right m ) hp
noncomputable def p_cascaderef03_right_0 (c_cascaderef03_right : S_api_Value → Int → Option (Bool)) (v0_0 v0_1 : Int) (v0_2 : Str) (v0_3 : Ls0) (v0_4 : Ls1) (v1 : Int) : Option (Bool) := b_cascaderef03_right_0 Prims.real p_cascaderef01_Right c_cascaderef03_right (p_cascaderef03_right_2 c_cascaderef03_right) v0_0 v0_1 v0_2 v0_3 v0_4 v1
theorem s_cascaderef03_right_0 (c_cascaderef03_right : S_api_Value → Int → Option (Bool)) (h_cascaderef03_right : (C_cascaderef03_right PC FC @XM E_api_Value E_api_Pair c_cascaderef03_right)) (m : Nat)    : H_cascaderef03_right_0 AT @XM E_api_Value E_api_Pair m  (p_cascaderef03_right_0 c_cascaderef03_right) := by
  intro v0_0 v0_1 v0_2 v0_3 v0_4 v1 out hp stk 
  exact o_cascaderef03_right_0 LW rfl rfl he_E_api_Value hz_E_api_Value he_E_api_Pair hz_E_api_Pair he_E_int hz_E_int p_cascaderef01_Right c_cascaderef03_right s_cascaderef01_Right h_cascaderef03_right stk m (p_cascaderef03_right_2 c_cascaderef03_right) v0_0 v0_1 v0_2 v0_3 v0_4 v1 (s_cascaderef03_right_2 c_cascaderef03_right h_cascaderef03_right m ) hp
noncomputable def pk_cascaderef03_right : Nat → (S_api_Value → Int → Option (Bool))
  | 0 => fun _ _ => none
  | k + 1 => fun ⟨v0_0, v0_1, v0_2, v0_3, v0_4⟩ v1 => p_cascaderef03_right_0 ((pk_cascaderef03_right k)) v0_0 v0_1 v0_2 v0_3 v0_4 v1
theorem sk_cascaderef03_right : ∀ k, ((C_cascaderef03_right PC FC @XM E_api_Value E_api_Pair ((pk_cascaderef03_right k)))) ∧ True
  | 0 => by
    refine ⟨?_, trivial⟩
    · intro _ _ _ _ _ _ _ hp; exact nomatch (show none = some _ from hp)
  | k + 1 => by
    obtain ⟨ih0, _⟩ := sk_cascaderef03_right k
    refine ⟨?_, trivial⟩
    · intro _ _ _ _ _ _ _ hp stk    
      exact pf_of (T := table) (G := glob) (f := 44) rfl rfl (s_cascaderef03_right_0 ((pk_cascaderef03_right k)) ih0 (topN stk + 1)    hp stk )
noncomputable def p_cascaderef03_right : S_api_Value → Int → Option (Bool) := (pk_cascaderef03_right 1000000)
theorem s_cascaderef03_right : (C_cascaderef03_right PC FC @XM E_api_Value E_api_Pair p_cascaderef03_right) := (sk_cascaderef03_right 1000000).1
noncomputable def p_cascaderef03_Right_0  (v0_0 v0_1 : Int) (v0_2 : Str) (v0_3 : Ls0) (v0_4 : Ls1) : Option (Bool) := b_cascaderef03_Right_0 Prims.real p_cascaderef03_right  v0_0 v0_1 v0_2 v0_3 v0_4
theorem s_cascaderef03_Right_0   (m : Nat)    : H_cascaderef03_Right_0 AT @XM E_api_Value E_api_Pair m  p_cascaderef03_Right_0 := by
  intro v0_0 v0_1 v0_2 v0_3 v0_4 out hp stk 
  exact o_cascaderef03_Right_0 LW rfl rfl he_E_api_Value hz_E_api_Value he_E_api_Pair hz_E_api_Pair he_E_int hz_E_int p_cascaderef03_right s_cascaderef03_right stk m v0_0 v0_1 v0_2 v0_3 v0_4 hp
noncomputable def p_cascaderef03_Right : S_api_Value → Option (Bool) := fun ⟨v0_0, v0_1, v0_2, v0_3, v0_4⟩ => p_cascaderef03_Right_0  v0_0 v0_1 v0_2 v0_3 v0_4
theorem s_cascaderef03_Right : (C_cascaderef03_Right PC FC @XM E_api_Value E_api_Pair p_cascaderef03_Right) := by
  intro _ _ _ _ _ _ hp stk    
  exact pf_of (T := table) (G := glob) (f := 14) rfl rfl (s_cascaderef03_Right_0   (topN stk + 1)    hp stk )
noncomputable def p_slices_EqualFunc__api_Value__api_Value_api_Value_api_Value__0_2 (c_tree_same : S_api_Value → S_api_Value → Option (Bool)) (v1 v15 : Ls0) (v16 v17 : Int) : Option (Bool) := Prims.real.loop (fun (s : Ls0 × Ls0 × Int × Int) => match s with | (v1, v15, v16, v17) => b_slices_EqualFunc__api_Value__api_Value_api_Value_api_Value__0_2 Prims.real c_tree_same  v1 v15 v16 v17) (v1, v15, v16, v17)
theorem u_slices_EqualFunc__api_Value__api_Value_api_Value_api_Value__0_2 (c_tree_same : S_api_Value → S_api_Value → Option (Bool)) (v1 v15 : Ls0) (v16 v17 : Int) : p_slices_EqualFunc__api_Value__api_Value_api_Value_api_Value__0_2 c_tree_same v1 v15 v16 v17 = match b_slices_EqualFunc__api_Value__api_Value_api_Value_api_Value__0_2 Prims.real c_tree_same  v1 v15 v16 v17 with
    | some (.inl (v1', v15', v16', v17')) => p_slices_EqualFunc__api_Value__api_Value_api_Value_api_Value__0_2 c_tree_same v1' v15' v16' v17'
    | some (.inr r) => some r
    | none => none := by
  show Pr.loop _ _ = _
  rw [Pr.loop_eq]
  try dsimp only
  generalize b_slices_EqualFunc__api_Value__api_Value_api_Value_api_Value__0_2 Prims.real c_tree_same  v1 v15 v16 v17 = y
  cases y with
  | none => rfl
  | some y => cases y <;> rfl
theorem s_slices_EqualFunc__api_Value__api_Value_api_Value_api_Value__0_2 (c_tree_same : S_api_Value → S_api_Value → Option (Bool)) (h_tree_same : (C_tree_same PC FC @XM E_api_Value E_api_Pair c_tree_same)) (m : Nat)    : H_slices_EqualFunc__api_Value__api_Value_api_Value_api_Value__0_2 AT @XM E_api_Value m  (p_slices_EqualFunc__api_Value__api_Value_api_Value_api_Value__0_2 c_tree_same) := by
  intro v1 v15 v16 v17 out hp stk 
  refine LW.ind _ (fun (s : Ls0 × Ls0 × Int × Int) o => match s with | (v1, v15, v16, v17) => ∀ (stk : Stk), (A_slices_EqualFunc__api_Value__api_Value_api_Value_api_Value__0_2 AT @XM E_api_Value m  v1 v15 v16 v17 stk) = (O_slices_EqualFunc__api_Value__api_Value_api_Value_api_Value__0  m  stk) o) (fun s r e => ?_) (fun s t r e ih => ?_) (v1, v15, v16, v17) out hp stk 
  · obtain ⟨v1, v15, v16, v17⟩ := s
    intro stk 
    exact o_slices_EqualFunc__api_Value__api_Value_api_Value_api_Value__0_2 LW rfl rfl he_E_api_Value hz_E_api_Value he_E_api_Pair hz_E_api_Pair he_E_int hz_E_int c_tree_same h_tree_same stk m v1 v15 v16 v17 e
  · obtain ⟨v1, v15, v16, v17⟩ := s; obtain ⟨v1', v15', v16', v17'⟩ := t
    intro stk 
    exact (o_slices_EqualFunc__api_Value__api_Value_api_Value_api_Value__0_2 LW rfl rfl he_E_api_Value hz_E_api_Value he_E_api_Pair hz_E_api_Pair he_E_int hz_E_int c_tree_same h_tree_same stk m v1 v15 v16 v17 e).trans (ih stk )
noncomputable def p_slices_EqualFunc__api_Value__api_Value_api_Value_api_Value__0_0 (c_tree_same : S_api_Value → S_api_Value → Option (Bool)) (v0 v1 : Ls0) : Option (Bool) := b_slices_EqualFunc__api_Value__api_Value_api_Value_api_Value__0_0 Prims.real c_tree_same (p_slices_EqualFunc__api_Value__api_Value_api_Value_api_Value__0_2 c_tree_same) v0 v1
theorem s_slices_EqualFunc__api_Value__api_Value_api_Value_api_Value__0_0 (c_tree_same : S_api_Value → S_api_Value → Option (Bool)) (h_tree_same : (C_tree_same PC FC @XM E_api_Value E_api_Pair c_tree_same)) (m : Nat)    : H_slices_EqualFunc__api_Value__api_Value_api_Value_api_Value__0_0 AT @XM E_api_Value m  (p_slices_EqualFunc__api_Value__api_Value_api_Value_api_Value__0_0 c_tree_same) := by
  intro v0 v1 out hp stk 
  exact o_slices_EqualFunc__api_Value__api_Value_api_Value_api_Value__0_0 LW rfl rfl he_E_api_Value hz_E_api_Value he_E_api_Pair hz_E_api_Pair he_E_int hz_E_int c_tree_same h_tree_same stk m (p_slices_EqualFunc__api_Value__api_Value_api_Value_api_Value__0_2 c_tree_same) v0 v1 (s_slices_EqualFunc__api_Value__api_Value_api_Value_api_Value__0_2 c_tree_same h_tree_same m ) hp
noncomputable def p_tree_same_0 (c_slices_EqualFunc__api_Value__api_Value_api_Value_api_Value__0 : Ls0 → Ls0 → Option (Bool)) (c_slices_EqualFunc__api_Pair__api_Pair_api_Pair_api_Pair__0 : Ls1 → Ls1 → Option (Bool)) (v0_0 v0_1 : Int) (v0_2 : Str) (v0_3 : Ls0) (v0_4 : Ls1) (v1_0 v1_1 : Int) (v1_2 : Str) (v1_3 : Ls0) (v1_4 : Ls1) : Option (Bool) := b_tree_same_0 Prims.real c_slices_EqualFunc__api_Value__api_Value_api_Value_api_Value__0 c_slices_EqualFunc__api_Pair__api_Pair_api_Pair_api_Pair__0  v0_0 v0_1 v0_2 v0_3 v0_4 v1_0 v1_1 v1_2 v1_3 v1_4
theorem s_tree_same_0 (c_slices_EqualFunc__api_Value__api_Value_api_Value_api_Value__0 : Ls0 → Ls0 → Option (Bool)) (c_slices_EqualFunc__api_Pair__api_Pair_api_Pair_api_Pair__0 : Ls1 → Ls1 → Option (Bool)) (h_slices_EqualFunc__api_Value__api_Value_api_Value_api_Value__0 : (C_slices_EqualFunc__api_Value__api_Value_api_Value_api_Value__0 PC FC @XM E_api_Value c_slices_EqualFunc__api_Value__api_Value_api_Value_api_Value__0)) (h_slices_EqualFunc__api_Pair__api_Pair_api_Pair_api_Pair__0 : (C_slices_EqualFunc__api_Pair__api_Pair_api_Pair_api_Pair__0 PC FC @XM E_api_Pair c_slices_EqualFunc__api_Pair__api_Pair_api_Pair_api_Pair__0)) (m : Nat)    : H_tree_same_0 AT @XM E_api_Value E_api_Pair m  (p_tree_same_0 c_slices_EqualFunc__api_Value__api_Value_api_Value_api_Value__0 c_slices_EqualFunc__api_Pair__api_Pair_api_Pair_api_Pair__0) := by
  intro v0_0 v0_1 v0_2 v0_3 v0_4 v1_0 v1_1 v1_2 v1_3 v1_4 out hp stk 
  exact o_tree_same_0 LW rfl rfl he_E_api_Value hz_E_api_Value he_E_api_Pair hz_E_api_Pair he_E_int hz_E_int c_slices_EqualFunc__api_Value__api_Value_api_Value_api_Value__0 c_slices_EqualFunc__api_Pair__api_Pair_api_Pair_api_Pair__0 h_slices_EqualFunc__api_Value__api_Value_api_Value_api_Value__0 h_slices_EqualFunc__api_Pair__api_Pair_api_Pair_api_Pair__0 stk m v0_0 v0_1 v0_2 v0_3 v0_4 v1_0 v1_1 v1_2 v1_3 v1_4 hp
noncomputable def p_slices_EqualFunc__api_Pair__api_Pair_api_Pair_api_Pair__0_2 (c_tree_same_1 : S_api_Pair → S_api_Pair → Option (Bool)) (v1 v15 : Ls1) (v16 v17 : Int) : Option (Bool) := Prims.real.loop (fun (s : Ls1 × Ls1 × Int × Int) => match s with | (v1, v15, v16, v17) => b_slices_EqualFunc__api_Pair__api_Pair_api_Pair_api_Pair__0_2 Prims.real c_tree_same_1  v1 v15 v16 v17) (v1, v15, v16, v17)
theorem u_slices_EqualFunc__api_Pair__api_Pair_api_Pair_api_Pair__0_2 (c_tree_same_1 : S_api_Pair → S_api_Pair → Option (Bool)) (v1 v15 : Ls1) (v16 v17 : Int) : p_slices_EqualFunc__api_Pair__api_Pair_api_Pair_api_Pair__0_2 c_tree_same_1 v1 v15 v16 v17 = match b_slices_EqualFunc__api_Pair__api_Pair_api_Pair_api_Pair__0_2 Prims.real c_tree_same_1  v1 v15 v16 v17 with
    | some (.inl (v1', v15', v16', v17')) => p_slices_EqualFunc__api_Pair__api_Pair_api_Pair_api_Pair__0_2 c_tree_same_1 v1' v15' v16' v17'
    | some (.inr r) => some r
    | none => none := by
  show Pr.loop _ _ = _
  rw [Pr.loop_eq]
  try dsimp only
  generalize b_slices_EqualFunc__api_Pair__api_Pair_api_Pair_api_Pair__0_2 Prims.real c_tree_same_1  v1 v15 v16 v17 = y
  cases y with
  | none => rfl
  | some y => cases y <;> rfl
theorem s_slices_EqualFunc__api_Pair__api_Pair_api_Pair_api_Pair__0_2 (c_tree_same_1 : S_api_Pair → S_api_Pair → Option (Bool)) (h_tree_same_1 : (C_tree_same_1 PC FC @XM E_api_Value E_api_Pair c_tree_same_1)) (m : Nat)    : H_slices_EqualFunc__api_Pair__api_Pair_api_Pair_api_Pair__0_2 AT @XM E_api_Pair m  (p_slices_EqualFunc__api_Pair__api_Pair_api_Pair_api_Pair__0_2 c_tree_same_1) := by
  intro v1 v15 v16 v17 out hp stk 
  refine LW.ind _ (fun (s : Ls1 × Ls1 × Int × Int) o => match s with | (v1, v15, v16, v17) => ∀ (stk : Stk), (A_slices_EqualFunc__api_Pair__api_Pair_api_Pair_api_Pair__0_2 AT @XM E_api_Pair m  v1 v15 v16 v17 stk) = (O_slices_EqualFunc__api_Pair__api_Pair_api_Pair_api_Pair__0  m  stk) o) (fun s r e => ?_) (fun s t r e ih => ?_) (v1, v15, v16, v17) out hp stk 
  · obtain ⟨v1, v15, v16, v17⟩ := s
    intro stk 
    exact o_slices_EqualFunc__api_Pair__api_Pair_api_Pair_api_Pair__0_2 LW rfl rfl he_E_api_Value hz_E_api_Value he_E_api_Pair hz_E_api_Pair he_E_int hz_E_int c_tree_same_1 h_tree_same_1 stk m v1 v15 v16 v17 e
  · obtain ⟨v1, v15, v16, v17⟩ := s; obtain ⟨v1', v15', v16', v17'⟩ := t
    intro stk 
    exact (o_slices_EqualFunc__api_Pair__api_Pair_api_Pair_api_Pair__0_2 LW rfl rfl he_E_api_Value hz_E_api_Value he_E_api_Pair hz_E_api_Pair he_E_int hz_E_int c_tree_same_1 h_tree_same_1 stk m v1 v15 v16 v17 e).trans (ih stk )
noncomputable def p_slices_EqualFunc__api_Pair__api_Pair_api_Pair_api_Pair__0_0 (c_tree_same_1 : S_api_Pair → S_api_Pair → Option (Bool)) (v0 v1 : Ls1) : Option (Bool) := b_slices_EqualFunc__api_Pair__api_Pair_api_Pair_api_Pair__0_0 Prims.real c_tree_same_1 (p_slices_EqualFunc__api_Pair__api_Pair_api_Pair_api_Pair__0_2 c_tree_same_1) v0 v1
theorem s_slices_EqualFunc__api_Pair__api_Pair_api_Pair_api_Pair__0_0 (c_tree_same_1 : S_api_Pair → S_api_Pair → Option (Bool)) (h_tree_same_1 : (C_tree_same_1 PC FC @XM E_api_Value E_api_Pair c_tree_same_1)) (m : Nat)    : H_slices_EqualFunc__api_Pair__api_Pair_api_Pair_api_Pair__0_0 AT @XM E_api_Pair m  (p_slices_EqualFunc__api_Pair__api_Pair_api_Pair_api_Pair__0_0 c_tree_same_1) := by
  intro v0 v1 out hp stk 
  exact o_slices_EqualFunc__api_Pair__api_Pair_api_Pair_api_Pair__0_0 LW rfl rfl he_E_api_Value hz_E_api_Value he_E_api_Pair hz_E_api_Pair he_E_int hz_E_int c_tree_same_1 h_tree_same_1 stk m (p_slices_EqualFunc__api_Pair__api_Pair_api_Pair_api_Pair__0_2 c_tree_same_1) v0 v1 (s_slices_EqualFunc__api_Pair__api_Pair_api_Pair_api_Pair__0_2 c_tree_same_1 h_tree_same_1 m ) hp
noncomputable def p_tree_same_1_0 (c_tree_same : S_api_Value → S_api_Value → Option (Bool)) (v0_0 : Str) (v0_1_0 v0_1_1 : Int) (v0_1_2 : Str) (v0_1_3 : Ls0) (v0_1_4 : Ls1) (v1_0 : Str) (v1_1_0 v1_1_1 : Int) (v1_1_2 : Str) (v1_1_3 : Ls0) (v1_1_4 : Ls1) : Option (Bool) := b_tree_same_1_0 Prims.real c_tree_same  v0_0 v0_1_0 v0_1_1 v0_1_2 v0_1_3 v0_1_4 v1_0 v1_1_0 v1_1_1 v1_1_2 v1_1_3 v1_1_4
theorem s_tree_same_1_0 (c_tree_same : S_api_Value → S_api_Value → Option (Bool)) (h_tree_same : (C_tree_same PC FC @XM E_api_Value E_api_Pair c_tree_same)) (m : Nat)    : H_tree_same_1_0 AT @XM E_api_Value E_api_Pair m  (p_tree_same_1_0 c_tree_same) := by
  intro v0_0 v0_1_0 v0_1_1 v0_1_2 v0_1_3 v0_1_4 v1_0 v1_1_0 v1_1_1 v1_1_2 v1_1_3 v1_1_4 out hp stk 
  exact o_tree_same_1_0 LW rfl rfl he_E_api_Value hz_E_api_Value he_E_api_Pair hz_E_api_Pair he_E_int hz_E_int c_tree_same h_tree_same stk m v0_0 v0_1_0 v0_1_1 v0_1_2 v0_1_3 v0_1_4 v1_0 v1_1_0 v1_1_1 v1_1_2 v1_1_3 v1_1_4 hp
noncomputable def pk_slices_EqualFunc__api_Value__api_Value_api_Value_api_Value__0 : Nat → (Ls0 → Ls0 → Option (Bool)) × (S_api_Value → S_api_Value → Option (Bool)) × (Ls1 → Ls1 → Option (Bool)) × (S_api_Pair → S_api_Pair → Option (Bool))
  | 0 => (fun _ _ => none, fun _ _ => none, fun _ _ => none, fun _ _ => none)
  | k + 1 => (fun v0 v1 => p_slices_EqualFunc__api_Value__api_Value_api_Value_api_Value__0_0 ((pk_slices_EqualFunc__api_Value__api_Value_api_Value_api_Value__0 k).2.1) v0 v1, fun ⟨v0_0, v0_1, v0_2, v0_3, v0_4⟩ ⟨v1_0, v1_1, v1_2, v1_3, v1_4⟩ => p_tree_same_0 ((pk_slices_EqualFunc__api_Value__api_Value_api_Value_api_Value__0 k).1) ((pk_slices_EqualFunc__api_Value__api_Value_api_Value_api_Value__0 k).2.2.1) v0_0 v0_1 v0_2 v0_3 v0_4 v1_0 v1_1 v1_2 v1_3 v1_4, fun v0 v1 => p_slices_EqualFunc__api_Pair__api_Pair_api_Pair_api_Pair__0_0 ((pk_slices_EqualFunc__api_Value__api_Value_api_Value_api_Value__0 k).2.2.2) v0 v1, fun ⟨v0_0, ⟨v0_1_0, v0_1_1, v0_1_2, v0_1_3, v0_1_4⟩⟩ ⟨v1_0, ⟨v1_1_0, v1_1_1, v1_1_2, v1_1_3, v1_1_4⟩⟩ => p_tree_same_1_0 ((pk_slices_EqualFunc__api_Value__api_Value_api_Value_api_Value__0 k).2.1) v0_0 v0_1_0 v0_1_1 v0_1_2 v0_1_3 v0_1_4 v1_0 v1_1_0 v1_1_1 v1_1_2 v1_1_3 v1_1_4)
theorem sk_slices_EqualFunc__api_Value__api_Value_api_Value_api_Value__0 : ∀ k, ((C_slices_EqualFunc__api_Value__api_Value_api_Value_api_Value__0 PC FC @XM E_api_Value ((pk_slices_EqualFunc__api_Value__api_Value_api_Value_api_Value__0 k).1))) ∧ ((C_tree_same PC FC @XM E_api_Value E_api_Pair ((pk_slices_EqualFunc__api_Value__api_Value_api_Value_api_Value__0 k).2.1))) ∧ ((C_slices_EqualFunc__api_Pair__api_Pair_api_Pair_api_Pair__0 PC FC @XM E_api_Pair ((pk_slices_EqualFunc__api_Value__api_Value_api_Value_api_Value__0 k).2.2.1))) ∧ ((C_tree_same_1 PC FC @XM E_api_Value E_api_Pair ((pk_slices_EqualFunc__api_Value__api_Value_api_Value_api_Value__0 k).2.2.2))) ∧ True
  | 0 => by
    refine ⟨?_, ?_, ?_, ?_, trivial⟩
    · intro _ _ _ hp; exact nomatch (show none = some _ from hp)
    · intro _ _ _ _ _ _ _ _ _ _ _ hp; exact nomatch (show none = some _ from hp)
    · intro _ _ _ hp; exact nomatch (show none = some _ from hp)
    · intro _ _ _ _ _ _ _ _ _ _ _ _ _ hp; exact nomatch (show none = some _ from hp)
  | k + 1 => by
    obtain ⟨ih0, ih1, ih2, ih3, _⟩ := sk_slices_EqualFunc__api_Value__api_Value_api_Value_api_Value__0 k
    refine ⟨?_, ?_, ?_, ?_, trivial⟩
    · intro _ _ _ hp stk    
      exact pf_of (T := table) (G := glob) (f := 73) rfl rfl (s_slices_EqualFunc__api_Value__api_Value_api_Value_api_Value__0_0 ((pk_slices_EqualFunc__api_Value__api_Value_api_Value_api_Value__0 k).2.1) ih1 (topN stk + 1)    hp stk )
    · intro _ _ _ _ _ _ _ _ _ _ _ hp stk    
      exact pf_of (T := table) (G := glob) (f := 60) rfl rfl (s_tree_same_0 ((pk_slices_EqualFunc__api_Value__api_Value_api_Value_api_Value__0 k).1) ((pk_slices_EqualFunc__api_Value__api_Value_api_Value_api_Value__0 k).2.2.1) ih0 ih2 (topN stk + 1)    hp stk )
    · intro _ _ _ hp stk    
      exact pf_of (T := table) (G := glob) (f := 74) rfl rfl (s_slices_EqualFunc__api_Pair__api_Pair_api_Pair_api_Pair__0_0 ((pk_slices_EqualFunc__api_Value__api_Value_api_Value_api_Value__0 k).2.2.2) ih3 (topN stk + 1)    hp stk )
    · intro _ _ _ _ _ _ _ _ _ _ _ _ _ hp stk    
      exact pf_of (T := table) (G := glob) (f := 72) rfl rfl (s_tree_same_1_0 ((pk_slices_EqualFunc__api_Value__api_Value_api_Value_api_Value__0 k).2.1) ih1 (topN stk + 1)    hp stk )
noncomputable def p_slices_EqualFunc__api_Value__api_Value_api_Value_api_Value__0 : Ls0 → Ls0 → Option (Bool) := (pk_slices_EqualFunc__api_Value__api_Value_api_Value_api_Value__0 1000000).1
theorem s_slices_EqualFunc__api_Value__api_Value_api_Value_api_Value__0 : (C_slices_EqualFunc__api_Value__api_Value_api_Value_api_Value__0 PC FC @XM E_api_Value p_slices_EqualFunc__api_Value__api_Value_api_Value_api_Value__0) := (sk_slices_EqualFunc__api_Value__api_Value_api_Value_api_Value__0 1000000).1
noncomputable def p_tree_same : S_api_Value → S_api_Value → Option (Bool) := (pk_slices_EqualFunc__api_Value__api_Value_api_Value_api_Value__0 1000000).2.1
theorem s_tree_same : (C_tree_same PC FC @XM E_api_Value E_api_Pair p_tree_same) := (sk_slices_EqualFunc__api_Value__api_Value_api_Value_api_Value__0 1000000).2.1
noncomputable def p_slices_EqualFunc__api_Pair__api_Pair_api_Pair_api_Pair__0 : Ls1 → Ls1 → Option (Bool) := (pk_slices_EqualFunc__api_Value__api_Value_api_Value_api_Value__0 1000000).2.2.1
theorem s_slices_EqualFunc__api_Pair__api_Pair_api_Pair_api_Pair__0 : (C_slices_EqualFunc__api_Pair__api_Pair_api_Pair_api_Pair__0 PC FC @XM E_api_Pair p_slices_EqualFunc__api_Pair__api_Pair_api_Pair_api_Pair__0) := (sk_slices_EqualFunc__api_Value__api_Value_api_Value_api_Value__0 1000000).2.2.1
noncomputable def p_tree_same_1 : S_api_Pair → S_api_Pair → Option (Bool) := (pk_slices_EqualFunc__api_Value__api_Value_api_Value_api_Value__0 1000000).2.2.2
theorem s_tree_same_1 : (C_tree_same_1 PC FC @XM E_api_Value E_api_Pair p_tree_same_1) := (sk_slices_EqualFunc__api_Value__api_Value_api_Value_api_Value__0 1000000).2.2.2.1
noncomputable def p_tree_Same_0  (v0_0 v0_1 : Int) (v0_2 : Str) (v0_3 : Ls0) (v0_4 : Ls1) (v1_0 v1_1 : Int) (v1_2 : Str) (v1_3 : Ls0) (v1_4 : Ls1) : Option (Bool) := b_tree_Same_0 Prims.real p_tree_Right p_tree_same  v0_0 v0_1 v0_2 v0_3 v0_4 v1_0 v1_1 v1_2 v1_3 v1_4
theorem s_tree_Same_0   (m : Nat)    : H_tree_Same_0 AT @XM E_api_Value E_api_Pair m  p_tree_Same_0 := by
  intro v0_0 v0_1 v0_2 v0_3 v0_4 v1_0 v1_1 v1_2 v1_3 v1_4 out hp stk 
  exact o_tree_Same_0 LW rfl rfl he_E_api_Value hz_E_api_Value he_E_api_Pair hz_E_api_Pair he_E_int hz_E_int p_tree_Right p_tree_same s_tree_Right s_tree_same stk m v0_0 v0_1 v0_2 v0_3 v0_4 v1_0 v1_1 v1_2 v1_3 v1_4 hp
noncomputable def p_tree_Same : S_api_Value → S_api_Value → Option (Bool) := fun ⟨v0_0, v0_1, v0_2, v0_3, v0_4⟩ ⟨v1_0, v1_1, v1_2, v1_3, v1_4⟩ => p_tree_Same_0  v0_0 v0_1 v0_2 v0_3 v0_4 v1_0 v1_1 v1_2 v1_3 v1_4
theorem s_tree_Same : (C_tree_Same PC FC @XM E_api_Value E_api_Pair p_tree_Same) := by
  intro _ _ _ _ _ _ _ _ _ _ _ hp stk    
  exact pf_of (T := table) (G := glob) (f := 26) rfl rfl (s_tree_Same_0   (topN stk + 1)    hp stk )
noncomputable def p_cascaderef03_Same_6 (c_cascaderef03_Same : S_api_Value → S_api_Value → Option (Bool)) (v2_0 v2_1 : Int) (v2_2 : Str) (v2_3 : Ls0) (v2_4 : Ls1) (v3_0 v3_1 : Int) (v3_2 : Str) (v3_3 : Ls0) (v3_4 : Ls1) (v6 : Int) : Option (Bool) := Prims.real.loop (fun (s : Int × Int × Str × Ls0 × Ls1 × Int × Int × Str × Ls0 × Ls1 × Int) => match s with | (v2_0, v2_1, v2_2, v2_3, v2_4, v3_0, v3_1, v3_2, v3_3, v3_4, v6) => b_cascaderef03_Same_6 Prims.real c_cascaderef03_Same  v2_0 v2_1 v2_2 v2_3 v2_4 v3_0 v3_1 v3_2 v3_3 v3_4 v6) (v2_0, v2_1, v2_2, v2_3, v2_4, v3_0, v3_1, v3_2, v3_3, v3_4, v6)
theorem u_cascaderef03_Same_6 (c_cascaderef03_Same : S_api_Value → S_api_Value → Option (Bool)) (v2_0 v2_1 : Int) (v2_2 : Str) (v2_3 : Ls0) (v2_4 : Ls1) (v3_0 v3_1 : Int) (v3_2 : Str) (v3_3 : Ls0) (v3_4 : Ls1) (v6 : Int) : p_cascaderef03_Same_6 c_cascaderef03_Same v2_0 v2_1 v2_2 v2_3 v2_4 v3_0 v3_1 v3_2 v3_3 v3_4 v6 = match b_cascaderef03_Same_6 Prims.real c_cascaderef03_Same  v2_0 v2_1 v2_2 v2_3 v2_4 v3_0 v3_1 v3_2 v3_3 v3_4 v6 with
    | some (.inl (v2_0', v2_1', v2_2', v2_3', v2_4', v3_0', v3_1', v3_2', v3_3', v3_4', v6')) => p_cascaderef03_Same_6 c_cascaderef03_Same v2_0' v2_1' v2_2' v2_3' v2_4' v3_0' v3_1' v3_2' v3_3' v3_4' v6'
    | some (.inr r) => some r
    | none => none := by
  show Pr.loop _ _ = _
  rw [Pr.loop_eq]
  try dsimp only
  generalize b_cascaderef03_Same_6 Prims.real c_cascaderef03_Same  v2_0 v2_1 v2_2 v2_3 v2_4 v3_0 v3_1 v3_2 v3_3 v3_4 v6 = y
  cases y with
  | none => rfl
  | some y => cases y <;> rfl
theorem s_cascaderef03_Same_6 (c_cascaderef03_Same : S_api_Value → S_api_Value → Option (Bool)) (h_cascaderef03_Same : (C_cascaderef03_Same PC FC @XM E_api_Value E_api_Pair c_cascaderef03_Same)) (m : Nat)    : H_cascaderef03_Same_6 AT @XM E_api_Value E_api_Pair m  (p_cascaderef03_Same_6 c_cascaderef03_Same) := by
  intro v2_0 v2_1 v2_2 v2_3 v2_4 v3_0 v3_1 v3_2 v3_3 v3_4 v6 out hp stk 
  refine LW.ind _ (fun (s : Int × Int × Str × Ls0 × Ls1 × Int × Int × Str × Ls0 × Ls1 × Int) o => match s with | (v2_0, v2_1, v2_2, v2_3, v2_4, v3_0, v3_1, v3_2, v3_3, v3_4, v6) => ∀ (stk : Stk), (A_cascaderef03_Same_6 AT @XM E_api_Value E_api_Pair m  v2_0 v2_1 v2_2 v2_3 v2_4 v3_0 v3_1 v3_2 v3_3 v3_4 v6 stk) = (O_cascaderef03_Same  m  stk) o) (fun s r e => ?_) (fun s t r e ih => ?_) (v2_0, v2_1, v2_2, v2_3, v2_4, v3_0, v3_1, v3_2, v3_3, v3_4, v6) out hp stk 
  · obtain ⟨v2_0, v2_1, v2_2, v2_3, v2_4, v3_0, v3_1, v3_2, v3_3, v3_4, v6⟩ := s
    intro stk 
    exact o_cascaderef03_Same_6 LW rfl rfl he_E_api_Value hz_E_api_Value he_E_api_Pair hz_E_api_Pair he_E_int hz_E_int c_cascaderef03_Same h_cascaderef03_Same stk m v2_0 v2_1 v2_2 v2_3 v2_4 v3_0 v3_1 v3_2 v3_3 v3_4 v6 e
  · obtain ⟨v2_0, v2_1, v2_2, v2_3, v2_4, v3_0, v3_1, v3_2, v3_3, v3_4, v6⟩ := s; obtain ⟨v2_0', v2_1', v2_2', v2_3', v2_4', v3_0', v3_1', v3_2', v3_3', v3_4', v6'⟩ := t
    intro stk 
    exact (o_cascaderef03_Same_6 LW rfl rfl he_E_api_Value hz_E_api_Value he_E_api_Pair hz_E_api_Pair he_E_int hz_E_int c_cascaderef03_Same h_cascaderef03_Same stk m v2_0 v2_1 v2_2 v2_3 v2_4 v3_0 v3_1 v3_2 v3_3 v3_4 v6 e).trans (ih stk )
noncomputable def p_cascaderef03_Same_2 (c_cascaderef03_Same : S_api_Value → S_api_Value → Option (Bool)) (v2_0 v2_1 : Int) (v2_2 : Str) (v2_3 : Ls0) (v2_4 : Ls1) (v3_0 v3_1 : Int) (v3_2 : Str) (v3_3 : Ls0) (v3_4 : Ls1) (v5 : Int) : Option (Bool) := Prims.real.loop (fun (s : Int × Int × Str × Ls0 × Ls1 × Int × Int × Str × Ls0 × Ls1 × Int) => match s with | (v2_0, v2_1, v2_2, v2_3, v2_4, v3_0, v3_1, v3_2, v3_3, v3_4, v5) => b_cascaderef03_Same_2 Prims.real c_cascaderef03_Same (p_cascaderef03_Same_6 c_cascaderef03_Same) v2_0 v2_1 v2_2 v2_3 v2_4 v3_0 v3_1 v3_2 v3_3 v3_4 v5) (v2_0, v2_1, v2_2, v2_3, v2_4, v3_0, v3_1, v3_2, v3_3, v3_4, v5)
theorem u_cascaderef03_Same_2 (c_cascaderef03_Same : S_api_Value → S_api_Value → Option (Bool)) (v2_0 v2_1 : Int) (v2_2 : Str) (v2_3 : Ls0) (v2_4 : Ls1) (v3_0 v3_1 : Int) (v3_2 : Str) (v3_3 : Ls0) (v3_4 : Ls1) (v5 : Int) : p_cascaderef03_Same_2 c_cascaderef03_Same v2_0 v2_1 v2_2 v2_3 v2_4 v3_0 v3_1 v3_2 v3_3 v3_4 v5 = match b_cascaderef03_Same_2 Prims.real c_cascaderef03_Same (p_cascaderef03_Same_6 c_cascaderef03_Same) v2_0 v2_1 v2_2 v2_3 v2_4 v3_0 v3_1 v3_2 v3_3 v3_4 v5 with
    | some (.inl (v2_0', v2_1', v2_2', v2_3', v2_4', v3_0', v3_1', v3_2', v3_3', v3_4', v5')) => p_cascaderef03_Same_2 c_cascaderef03_Same v2_0' v2_1' v2_2' v2_3' v2_4' v3_0' v3_1' v3_2' v3_3' v3_4' v5'
    | some (.inr r) => some r
    | none => none := by
  show Pr.loop _ _ = _
  rw [Pr.loop_eq]
  try dsimp only
  generalize b_cascaderef03_Same_2 Prims.real c_cascaderef03_Same (p_cascaderef03_Same_6 c_cascaderef03_Same) v2_0 v2_1 v2_2 v2_3 v2_4 v3_0 v3_1 v3_2 v3_3 v3_4 v5 = y
  cases y with
  | none => rfl
  | some y => cases y <;> rfl
theorem s_cascaderef03_Same_2 (c_cascaderef03_Same : S_api_Value → S_api_Value → Option (Bool)) (h_cascaderef03_Same : (C_cascaderef03_Same PC FC @XM E_api_Value E_api_Pair c_cascaderef03_Same)) (m : Nat)    : H_cascaderef03_Same_2 AT @XM E_api_Value E_api_Pair m  (p_cascaderef03_Same_2 c_cascaderef03_Same) := by
  intro v2_0 v2_1 v2_2 v2_3 v2_4 v3_0 v3_1 v3_2 v3_3 v3_4 v5 out hp stk 
  refine LW.ind _ (fun (s : Int × Int × Str × Ls0 × Ls1 × Int × Int × Str × Ls0 × Ls1 × Int) o => match s with | (v2_0, v2_1, v2_2, v2_3, v2_4, v3_0, v3_1, v3_2, v3_3, v3_4, v5) => ∀ (stk : Stk), (A_cascaderef03_Same_2 AT @XM E_api_Value E_api_Pair m  v2_0 v2_1 v2_2 v2_3 v2_4 v3_0 v3_1 v3_2 v3_3 v3_4 v5 stk) = (O_cascaderef03_Same  m  stk) o) (fun s r e => ?_) (fun s t r e ih => ?_) (v2_0, v2_1, v2_2, v2_3, v2_4, v3_0, v3_1, v3_2, v3_3, v3_4, v5) out hp stk 
  · obtain ⟨v2_0, v2_1, v2_2, v2_3, v2_4, v3_0, v3_1, v3_2, v3_3, v3_4, v5⟩ := s
    intro stk 
    exact o_cascaderef03_Same_2 LW rfl rfl he_E_api_Value hz_E_api_Value he_E_api_Pair hz_E_api_Pair he_E_int hz_E_int c_cascaderef03_Same h_cascaderef03_Same stk m (p_cascaderef03_Same_6 c_cascaderef03_Same) v2_0 v2_1 v2_2 v2_3 v2_4 v3_0 v3_1 v3_2 v3_3 v3_4 v5 (s_cascaderef03_Same_6 c_cascaderef03_Same h_cascaderef03_Same m ) e
  · obtain ⟨v2_0, v2_1, v2_2, v2_3, v2_4, v3_0, v3_1, v3_2, v3_3, v3_4, v5⟩ := s; obtain ⟨v2_0', v2_1', v2_2', v2_3', v2_4', v3_0', v3_1', v3_2', v3_3', v3_4', v5'⟩ := t
    intro stk 
    exact (o_cascaderef03_Same_2 LW rfl rfl he_E_api_Value hz_E_api_Value he_E_api_Pair hz_E_api_Pair he_E_int hz_E_int c_cascaderef03_Same h_cascaderef03_Same stk m (p_cascaderef03_Same_6 c_cascaderef03_Same) v2_0 v2_1 v2_2 v2_3 v2_4 v3_0 v3_1 v3_2 v3_3 v3_4 v5 (s_cascaderef03_Same_6 c_cascaderef03_Same h_cascaderef03_Same m ) e).trans (ih stk )
noncomputable def p_cascaderef03_Same_0 (c_cascaderef03_Same : S_api_Value → S_api_Value → Option (Bool)) (v0_0 v0_1 : Int) (v0_2 : Str) (v0_3 : Ls0) (v0_4 : Ls1) (v1_0 v1_1 : Int) (v1_2 : Str) (v1_3 : Ls0) (v1_4 : Ls1) : Option (Bool) := b_cascaderef03_Same_0 Prims.real c_cascaderef03_Same (p_cascaderef03_Same_2 c_cascaderef03_Same) v0_0 v0_1 v0_2 v0_3 v0_4 v1_0 v1_1 v1_2 v1_3 v1_4
theorem s_cascaderef03_Same_0 (c_cascaderef03_Same : S_api_Value → S_api_Value → Option (Bool)) (h_cascaderef03_Same : (C_cascaderef03_Same PC FC @XM E_api_Value E_api_Pair c_cascaderef03_Same)) (m : Nat)    : H_cascaderef03_Same_0 AT @XM E_api_Value E_api_Pair m  (p_cascaderef03_Same_0 c_cascaderef03_Same) := by
  intro v0_0 v0_1 v0_2 v0_3 v0_4 v1_0 v1_1 v1_2 v1_3 v1_4 out hp stk 
  exact o_cascaderef03_Same_0 LW rfl rfl he_E_api_Value hz_E_api_Value he_E_api_Pair hz_E_api_Pair he_E_int hz_E_int c_cascaderef03_Same h_cascaderef03_Same stk m (p_cascaderef03_Same_2 c_cascaderef03_Same) v0_0 v0_1 v0_2 v0_3 v0_4 v1_0 v1_1 v1_2 v1_3 v1_4 (s_cascaderef03_Same_2 c_cascaderef03_Same h_cascaderef03_Same m ) hp
noncomputable def pk_cascaderef03_Same : Nat → (S_api_Value → S_api_Value → Option (Bool))
  | 0 => fun _ _ => none
  | k + 1 => fun ⟨v0_0, v0_1, v0_2, v0_3, v0_4⟩ ⟨v1_0, v1_1, v1_2, v1_3, v1_4⟩ => p_cascaderef03_Same_0 ((pk_cascaderef03_Same k)) v0_0 v0_1 v0_2 v0_3 v0_4 v1_0 v1_1 v1_2 v1_3 v1_4
theorem sk_cascaderef03_Same : ∀ k, ((C_cascaderef03_Same PC FC @XM E_api_Value E_api_Pair ((pk_cascaderef03_Same k)))) ∧ True
  | 0 => by
    refine ⟨?_, trivial⟩
    · intro _ _ _ _ _ _ _ _ _ _ _ hp; exact nomatch (show none = some _ from hp)
  | k + 1 => by
    obtain ⟨ih0, _⟩ := sk_cascaderef03_Same k
    refine ⟨?_, trivial⟩
    · intro _ _ _ _ _ _ _ _ _ _ _ hp stk    
      exact pf_of (T := table) (G := glob) (f := 19) rfl rfl (s_cascaderef03_Same_0 ((pk_cascaderef03_Same k)) ih0 (topN stk + 1)    hp stk )
noncomputable def p_cascaderef03_Same : S_api_Value → S_api_Value → Option (Bool) := (pk_cascaderef03_Same 1000000)
theorem s_cascaderef03_Same : (C_cascaderef03_Same PC FC @XM E_api_Value E_api_Pair p_cascaderef03_Same) := (sk_cascaderef03_Same 1000000).1
noncomputable def p_tree_get_1  (v1 : Str) (v9 : Ls1) (v10 v11 o4_0 o4_1 : Int) (o4_2 : Str) (o4_3 : Ls0) (o4_4 : Ls1) : Option (S_api_Value × Bool) := Prims.real.loop (fun (s : Str × Ls1 × Int × Int × Int × Int × Str × Ls0 × Ls1) => match s with | (v1, v9, v10, v11, o4_0, o4_1, o4_2, o4_3, o4_4) => b_tree_get_1 Prims.real   v1 v9 v10 v11 o4_0 o4_1 o4_2 o4_3 o4_4) (v1, v9, v10, v11, o4_0, o4_1, o4_2, o4_3, o4_4)
theorem u_tree_get_1  (v1 : Str) (v9 : Ls1) (v10 v11 o4_0 o4_1 : Int) (o4_2 : Str) (o4_3 : Ls0) (o4_4 : Ls1) : p_tree_get_1  v1 v9 v10 v11 o4_0 o4_1 o4_2 o4_3 o4_4 = match b_tree_get_1 Prims.real   v1 v9 v10 v11 o4_0 o4_1 o4_2 o4_3 o4_4 with
    | some (.inl (v1', v9', v10', v11', o4_0', o4_1', o4_2', o4_3', o4_4')) => p_tree_get_1  v1' v9' v10' v11' o4_0' o4_1' o4_2' o4_3' o4_4'
    | some (.inr r) => some r
    | none => none := by
  show Pr.loop _ _ = _
  rw [Pr.loop_eq]
  try dsimp only
  generalize b_tree_get_1 Prims.real   v1 v9 v10 v11 o4_0 o4_1 o4_2 o4_3 o4_4 = y
  cases y with
  | none => rfl
  | some y => cases y <;> rfl
theorem s_tree_get_1   (m : Nat)    : H_tree_get_1 AT @XM E_api_Value E_api_Pair m  p_tree_get_1 := by
  intro v1 v9 v10 v11 o4_0 o4_1 o4_2 o4_3 o4_4 out hp stk 
  refine LW.ind _ (fun (s : Str × Ls1 × Int × Int × Int × Int × Str × Ls0 × Ls1) o => match s with | (v1, v9, v10, v11, o4_0, o4_1, o4_2, o4_3, o4_4) => ∀ (stk : Stk), (A_tree_get_1 AT @XM E_api_Value E_api_Pair m  v1 v9 v10 v11 o4_0 o4_1 o4_2 o4_3 o4_4 stk) = (O_tree_get @XM E_api_Value E_api_Pair m  stk) o) (fun s r e => ?_) (fun s t r e ih => ?_) (v1, v9, v10, v11, o4_0, o4_1, o4_2, o4_3, o4_4) out hp stk 
  · obtain ⟨v1, v9, v10, v11, o4_0, o4_1, o4_2, o4_3, o4_4⟩ := s
    intro stk 
    exact o_tree_get_1 LW rfl rfl he_E_api_Value hz_E_api_Value he_E_api_Pair hz_E_api_Pair he_E_int hz_E_int stk m v1 v9 v10 v11 o4_0 o4_1 o4_2 o4_3 o4_4 e
  · obtain ⟨v1, v9, v10, v11, o4_0, o4_1, o4_2, o4_3, o4_4⟩ := s; obtain ⟨v1', v9', v10', v11', o4_0', o4_1', o4_2', o4_3', o4_4'⟩ := t
    intro stk 
    exact (o_tree_get_1 LW rfl rfl he_E_api_Value hz_E_api_Value he_E_api_Pair hz_E_api_Pair he_E_int hz_E_int stk m v1 v9 v10 v11 o4_0 o4_1 o4_2 o4_3 o4_4 e).trans (ih stk )
noncomputable def p_tree_get_0  (v0_0 v0_1 : Int) (v0_2 : Str) (v0_3 : Ls0) (v0_4 : Ls1) (v1 : Str) : Option (S_api_Value × Bool) := b_tree_get_0 Prims.real  p_tree_get_1 v0_0 v0_1 v0_2 v0_3 v0_4 v1
theorem s_tree_get_0   (m : Nat)    : H_tree_get_0 AT @XM E_api_Value E_api_Pair m  p_tree_get_0 := by
  intro v0_0 v0_1 v0_2 v0_3 v0_4 v1 out hp stk 
  exact o_tree_get_0 LW rfl rfl he_E_api_Value hz_E_api_Value he_E_api_Pair hz_E_api_Pair he_E_int hz_E_int stk m p_tree_get_1 v0_0 v0_1 v0_2 v0_3 v0_4 v1 (s_tree_get_1 m ) hp
noncomputable def p_tree_get : S_api_Value → Str → Option (S_api_Value × Bool) := fun ⟨v0_0, v0_1, v0_2, v0_3, v0_4⟩ v1 => p_tree_get_0  v0_0 v0_1 v0_2 v0_3 v0_4 v1
theorem s_tree_get : (C_tree_get PC FC @XM E_api_Value E_api_Pair p_tree_get) := by
  intro _ _ _ _ _ _ _ _ _ _ _ _ hp stk    
  exact pf_of (T := table) (G := glob) (f := 55) rfl rfl (s_tree_get_0   (topN stk + 1)    hp stk )
noncomputable def p_slices_EqualFunc__api_Value__api_Value_api_Value_api_Value__1_2 (c_tree_alike : S_api_Value → S_api_Value → Option (Bool)) (v1 v15 : Ls0) (v16 v17 : Int) : Option (Bool) := Prims.real.loop (fun (s : Ls0 × Ls0 × Int × Int) => match s with | (v1, v15, v16, v17) => b_slices_EqualFunc__api_Value__api_Value_api_Value_api_Value__1_2 Prims.real c_tree_alike  v1 v15 v16 v17) (v1, v15, v16, v17)
theorem u_slices_EqualFunc__api_Value__api_Value_api_Value_api_Value__1_2 (c_tree_alike : S_api_Value → S_api_Value → Option (Bool)) (v1 v15 : Ls0) (v16 v17 : Int) : p_slices_EqualFunc__api_Value__api_Value_api_Value_api_Value__1_2 c_tree_alike v1 v15 v16 v17 = match b_slices_EqualFunc__api_Value__api_Value_api_Value_api_Value__1_2 Prims.real c_tree_alike  v1 v15 v16 v17 with
    | some (.inl (v1', v15', v16', v17')) => p_slices_EqualFunc__api_Value__api_Value_api_Value_api_Value__1_2 c_tree_alike v1' v15' v16' v17'
    | some (.inr r) => some r
    | none => none := by
  show Pr.loop _ _ = _
  rw [Pr.loop_eq]
  try dsimp only
  generalize b_slices_EqualFunc__api_Value__api_Value_api_Value_api_Value__1_2 Prims.real c_tree_alike  v1 v15 v16 v17 = y
  cases y with
  | none => rfl
  | some y => cases y <;> rfl
theorem s_slices_EqualFunc__api_Value__api_Value_api_Value_api_Value__1_2 (c_tree_alike : S_api_Value → S_api_Value → Option (Bool)) (h_tree_alike : (C_tree_alike PC FC @XM E_api_Value E_api_Pair c_tree_alike)) (m : Nat)    : H_slices_EqualFunc__api_Value__api_Value_api_Value_api_Value__1_2 AT @XM E_api_Value m  (p_slices_EqualFunc__api_Value__api_Value_api_Value_api_Value__1_2 c_tree_alike) := by
  intro v1 v15 v16 v17 out hp stk 
  refine LW.ind _ (fun (s : Ls0 × Ls0 × Int × Int) o => match s with | (v1, v15, v16, v17) => ∀ (stk : Stk), (A_slices_EqualFunc__api_Value__api_Value_api_Value_api_Value__1_2 AT @XM E_api_Value m  v1 v15 v16 v17 stk) = (O_slices_EqualFunc__api_Value__api_Value_api_Value_api_Value__1  m  stk) o) (fun s r e => ?_) (fun s t r e ih => ?_) (v1, v15, v16, v17) out hp stk 
  · obtain ⟨v1, v15, v16, v17⟩ := s
    intro stk 
    exact o_slices_EqualFunc__api_Value__api_Value_api_Value_api_Value__1_2 LW rfl rfl he_E_api_Value hz_E_api_Value he_E_api_Pair hz_E_api_Pair he_E_int hz_E_int c_tree_alike h_tree_alike stk m v1 v15 v16 v17 e
  · obtain ⟨v1, v15, v16, v17⟩ := s; obtain ⟨v1', v15', v16', v17'⟩ := t
    intro stk 
    exact (o_slices_EqualFunc__api_Value__api_Value_api_Value_api_Value__1_2 LW rfl rfl he_E_api_Value hz_E_api_Value he_E_api_Pair hz_E_api_Pair he_E_int hz_E_int c_tree_alike h_tree_alike stk m v1 v15 v16 v17 e).trans (ih stk )
noncomputable def p_slices_EqualFunc__api_Value__api_Value_api_Value_api_Value__1_0 (c_tree_alike : S_api_Value → S_api_Value → Option (Bool)) (v0 v1 : Ls0) : Option (Bool) := b_slices_EqualFunc__api_Value__api_Value_api_Value_api_Value__1_0 Prims.real c_tree_alike (p_slices_EqualFunc__api_Value__api_Value_api_Value_api_Value__1_2 c_tree_alike) v0 v1
theorem s_slices_EqualFunc__api_Value__api_Value_api_Value_api_Value__1_0 (c_tree_alike : S_api_Value → S_api_Value → Option (Bool)) (h_tree_alike : (C_tree_alike PC FC @XM E_api_Value E_api_Pair c_tree_alike)) (m : Nat)    : H_slices_EqualFunc__api_Value__api_Value_api_Value_api_Value__1_0 AT @XM E_api_Value m  (p_slices_EqualFunc__api_Value__api_Value_api_Value_api_Value__1_0 c_tree_alike) := by
  intro v0 v1 out hp stk 
  exact o_slices_EqualFunc__api_Value__api_Value_api_Value_api_Value__1_0 LW rfl rfl he_E_api_Value hz_E_api_Value he_E_api_Pair hz_E_api_Pair he_E_int hz_E_int c_tree_alike h_tree_alike stk m (p_slices_EqualFunc__api_Value__api_Value_api_Value_api_Value__1_2 c_tree_alike) v0 v1 (s_slices_EqualFunc__api_Value__api_Value_api_Value_api_Value__1_2 c_tree_alike h_tree_alike m ) hp
noncomputable def p_tree_alike_2 (c_slices_EqualFunc__api_Value__api_Value_api_Value_api_Value__1 : Ls0 → Ls0 → Option (Bool)) (c_tree_alike : S_api_Value → S_api_Value → Option (Bool)) (v3_0 v3_1 : Int) (v3_2 : Str) (v3_3 : Ls0) (v3_4 v46 : Ls1) (v47 v48 : Int) : Option (Bool) := Prims.real.loop (fun (s : Int × Int × Str × Ls0 × Ls1 × Ls1 × Int × Int) => match s with | (v3_0, v3_1, v3_2, v3_3, v3_4, v46, v47, v48) => b_tree_alike_2 Prims.real c_slices_EqualFunc__api_Value__api_Value_api_Value_api_Value__1 p_tree_get c_tree_alike  v3_0 v3_1 v3_2 v3_3 v3_4 v46 v47 v48) (v3_0, v3_1, v3_2, v3_3, v3_4, v46, v47, v48)
theorem u_tree_alike_2 (c_slices_EqualFunc__api_Value__api_Value_api_Value_api_Value__1 : Ls0 → Ls0 → Option (Bool)) (c_tree_alike : S_api_Value → S_api_Value → Option (Bool)) (v3_0 v3_1 : Int) (v3_2 : Str) (v3_3 : Ls0) (v3_4 v46 : Ls1) (v47 v48 : Int) : p_tree_alike_2 c_slices_EqualFunc__api_Value__api_Value_api_Value_api_Value__1 c_tree_alike v3_0 v3_1 v3_2 v3_3 v3_4 v46 v47 v48 = match b_tree_alike_2 Prims.real c_slices_EqualFunc__api_Value__api_Value_api_Value_api_Value__1 p_tree_get c_tree_alike  v3_0 v3_1 v3_2 v3_3 v3_4 v46 v47 v48 with
    | some (.inl (v3_0', v3_1', v3_2', v3_3', v3_4', v46', v47', v48')) => p_tree_alike_2 c_slices_EqualFunc__api_Value__api_Value_api_Value_api_Value__1 c_tree_alike v3_0' v3_1' v3_2' v3_3' v3_4' v46' v47' v48'
    | some (.inr r) => some r
    | none => none := by
  show Pr.loop _ _ = _
  rw [Pr.loop_eq]
  try dsimp only
  generalize b_tree_alike_2 Prims.real c_slices_EqualFunc__api_Value__api_Value_api_Value_api_Value__1 p_tree_get c_tree_alike  v3_0 v3_1 v3_2 v3_3 v3_4 v46 v47 v48 = y
  cases y with
  | none => rfl
  | some y => cases y <;> rfl
theorem s_tree_alike_2 (c_slices_EqualFunc__api_Value__api_Value_api_Value_api_Value__1 : Ls0 → Ls0 → Option (Bool)) (c_tree_alike : S_api_Value → S_api_Value → Option (Bool)) (h_slices_EqualFunc__api_Value__api_Value_api_Value_api_Value__1 : (C_slices_EqualFunc__api_Value__api_Value_api_Value_api_Value__1 PC FC @XM E_api_Value c_slices_EqualFunc__api_Value__api_Value_api_Value_api_Value__1)) (h_tree_alike : (C_tree_alike PC FC @XM E_api_Value E_api_Pair c_tree_alike)) (m : Nat)    : H_tree_alike_2 AT @XM E_api_Value E_api_Pair m  (p_tree_alike_2 c_slices_EqualFunc__api_Value__api_Value_api_Value_api_Value__1 c_tree_alike) := by
  intro v3_0 v3_1 v3_2 v3_3 v3_4 v46 v47 v48 out hp stk 
  refine LW.ind _ (fun (s : Int × Int × Str × Ls0 × Ls1 × Ls1 × Int × Int) o => match s with | (v3_0, v3_1, v3_2, v3_3, v3_4, v46, v47, v48) => ∀ (stk : Stk), (A_tree_alike_2 AT @XM E_api_Value E_api_Pair m  v3_0 v3_1 v3_2 v3_3 v3_4 v46 v47 v48 stk) = (O_tree_alike  m  stk) o) (fun s r e => ?_) (fun s t r e ih => ?_) (v3_0, v3_1, v3_2, v3_3, v3_4, v46, v47, v48) out hp stk 
  · obtain ⟨v3_0, v3_1, v3_2, v3_3, v3_4, v46, v47, v48⟩ := s
    intro stk 
    exact o_tree_alike_2 LW rfl rfl he_E_api_Value hz_E_api_Value he_E_api_Pair hz_E_api_Pair he_E_int hz_E_int c_slices_EqualFunc__api_Value__api_Value_api_Value_api_Value__1 p_tree_get c_tree_alike h_slices_EqualFunc__api_Value__api_Value_api_Value_api_Value__1 s_tree_get h_tree_alike stk m v3_0 v3_1 v3_2 v3_3 v3_4 v46 v47 v48 e
  · obtain ⟨v3_0, v3_1, v3_2, v3_3, v3_4, v46, v47, v48⟩ := s; obtain ⟨v3_0', v3_1', v3_2', v3_3', v3_4', v46', v47', v48'⟩ := t
    intro stk 
    exact (o_tree_alike_2 LW rfl rfl he_E_api_Value hz_E_api_Value he_E_api_Pair hz_E_api_Pair he_E_int hz_E_int c_slices_EqualFunc__api_Value__api_Value_api_Value_api_Value__1 p_tree_get c_tree_alike h_slices_EqualFunc__api_Value__api_Value_api_Value_api_Value__1 s_tree_get h_tree_alike stk m v3_0 v3_1 v3_2 v3_3 v3_4 v46 v47 v48 e).trans (ih stk )
noncomputable def p_tree_alike_0 (c_slices_EqualFunc__api_Value__api_Value_api_Value_api_Value__1 : Ls0 → Ls0 → Option (Bool)) (c_tree_alike : S_api_Value → S_api_Value → Option (Bool)) (v0_0 v0_1 : Int) (v0_2 : Str) (v0_3 : Ls0) (v0_4 : Ls1) (v1_0 v1_1 : Int) (v1_2 : Str) (v1_3 : Ls0) (v1_4 : Ls1) : Option (Bool) := b_tree_alike_0 Prims.real c_slices_EqualFunc__api_Value__api_Value_api_Value_api_Value__1 p_tree_get c_tree_alike (p_tree_alike_2 c_slices_EqualFunc__api_Value__api_Value_api_Value_api_Value__1 c_tree_alike) v0_0 v0_1 v0_2 v0_3 v0_4 v1_0 v1_1 v1_2 v1_3 v1_4
theorem s_tree_alike_0 (c_slices_EqualFunc__api_Value__api_Value_api_Value_api_Value__1 : Ls0 → Ls0 → Option (Bool)) (c_tree_alike : S_api_Value → S_api_Value → Option (Bool)) (h_slices_EqualFunc__api_Value__api_Value_api_Value_api_Value__1 : (C_slices_EqualFunc__api_Value__api_Value_api_Value_api_Value__1 PC FC @XM E_api_Value c_slices_EqualFunc__api_Value__api_Value_api_Value_api_Value__1)) (h_tree_alike : (C_tree_alike PC FC @XM E_api_Value E_api_Pair c_tree_alike)) (m : Nat)    : H_tree_alike_0 AT @XM E_api_Value E_api_Pair m  (p_tree_alike_0 c_slices_EqualFunc__api_Value__api_Value_api_Value_api_Value__1 c_tree_alike) := by
  intro v0_0 v0_1 v0_2 v0_3 v0_4 v1_0 v1_1 v1_2 v1_3 v1_4 out hp stk 
  exact o_tree_alike_0 LW rfl rfl he_E_api_Value hz_E_api_Value he_E_api_Pair hz_E_api_Pair he_E_int hz_E_int c_slices_EqualFunc__api_Value__api_Value_api_Value_api_Value__1 p_tree_get c_tree_alike h_slices_EqualFunc__api_Value__api_Value_api_Value_api_Value__1 s_tree_get h_tree_alike stk m (p_tree_alike_2 c_slices_EqualFunc__api_Value__api_Value_api_Value_api_Value__1 c_tree_alike) v0_0 v0_1 v0_2 v0_3 v0_4 v1_0 v1_1 v1_2 v1_3 v1_4 (s_tree_alike_2 c_slices_EqualFunc__api_Value__api_Value_api_Value_api_Value__1 c_tree_alike h_slices_EqualFunc__api_Value__api_Value_api_Value_api_Value__1 h_tree_alike m ) hp
noncomputable def pk_slices_EqualFunc__api_Value__api_Value_api_Value_api_Value__1 : Nat → (Ls0 → Ls0 → Option (Bool)) × (S_api_Value → S_api_Value → Option (Bool))
  | 0 => (fun _ _ => none, fun _ _ => none)
  | k + 1 => (fun v0 v1 => p_slices_EqualFunc__api_Value__api_Value_api_Value_api_Value__1_0 ((pk_slices_EqualFunc__api_Value__api_Value_api_Value_api_Value__1 k).2) v0 v1, fun ⟨v0_0, v0_1, v0_2, v0_3, v0_4⟩ ⟨v1_0, v1_1, v1_2, v1_3, v1_4⟩ => p_tree_alike_0 ((pk_slices_EqualFunc__api_Value__api_Value_api_Value_api_Value__1 k).1) ((pk_slices_EqualFunc__api_Value__api_Value_api_Value_api_Value__1 k).2) v0_0 v0_1 v0_2 v0_3 v0_4 v1_0 v1_1 v1_2 v1_3 v1_4)
theorem sk_slices_EqualFunc__api_Value__api_Value_api_Value_api_Value__1 : ∀ k, ((C_slices_EqualFunc__api_Value__api_Value_api_Value_api_Value__1 PC FC @XM E_api_Value ((pk_slices_EqualFunc__api_Value__api_Value_api_Value_api_Value__1 k).1))) ∧ ((C_tree_alike PC FC @XM E_api_Value E_api_Pair ((pk_slices_EqualFunc__api_Value__api_Value_api_Value_api_Value__1 k).2))) ∧ True
  | 0 => by
    refine ⟨?_, ?_, trivial⟩
    · intro _ _ _ hp; exact nomatch (show none = some _ from hp)
    · intro _ _ _ _ _ _ _ _ _ _ _ hp; exact nomatch (show none = some _ from hp)
  | k + 1 => by
    obtain ⟨ih0, ih1, _⟩ := sk_slices_EqualFunc__api_Value__api_Value_api_Value_api_Value__1 k
    refine ⟨?_, ?_, trivial⟩
    · intro _ _ _ hp stk    
      exact pf_of (T := table) (G := glob) (f := 73) rfl rfl (s_slices_EqualFunc__api_Value__api_Value_api_Value_api_Value__1_0 ((pk_slices_EqualFunc__api_Value__api_Value_api_Value_api_Value__1 k).2) ih1 (topN stk + 1)    hp stk )
    · intro _ _ _ _ _ _ _ _ _ _ _ hp stk    
      exact pf_of (T := table) (G := glob) (f := 61) rfl rfl (s_tree_alike_0 ((pk_slices_EqualFunc__api_Value__api_Value_api_Value_api_Value__1 k).1) ((pk_slices_EqualFunc__api_Value__api_Value_api_Value_api_Value__1 k).2) ih0 ih1 (topN stk + 1)    hp stk )
noncomputable def p_slices_EqualFunc__api_Value__api_Value_api_Value_api_Value__1 : Ls0 → Ls0 → Option (Bool) := (pk_slices_EqualFunc__api_Value__api_Value_api_Value_api_Value__1 1000000).1
theorem s_slices_EqualFunc__api_Value__api_Value_api_Value_api_Value__1 : (C_slices_EqualFunc__api_Value__api_Value_api_Value_api_Value__1 PC FC @XM E_api_Value p_slices_EqualFunc__api_Value__api_Value_api_Value_api_Value__1) := (sk_slices_EqualFunc__api_Value__api_Value_api_Value_api_Value__1 1000000).1
noncomputable def p_tree_alike : S_api_Value → S_api_Value → Option (Bool) := (pk_slices_EqualFunc__api_Value__api_Value_api_Value_api_Value__1 1000000).2
theorem s_tree_alike : (C_tree_alike PC FC @XM E_api_Value E_api_Pair p_tree_alike) := (sk_slices_EqualFunc__api_Value__api_Value_api_Value_api_Value__1 1000000).2.1
noncomputable def p_tree_Alike_0  (v0_0 v0_1 : Int) (v0_2 : Str) (v0_3 : Ls0) (v0_4 : Ls1) (v1_0 v1_1 : Int) (v1_2 : Str) (v1_3 : Ls0) (v1_4 : Ls1) : Option (Bool) := b_tree_Alike_0 Prims.real p_tree_Right p_tree_alike  v0_0 v0_1 v0_2 v0_3 v0_4 v1_0 v1_1 v1_2 v1_3 v1_4
theorem s_tree_Alike_0   (m : Nat)    : H_tree_Alike_0 AT @XM E_api_Value E_api_Pair m  p_tree_Alike_0 := by
  intro v0_0 v0_1 v0_2 v0_3 v0_4 v1_0 v1_1 v1_2 v1_3 v1_4 out hp stk 
  exact o_tree_Alike_0 LW rfl rfl he_E_api_Value hz_E_api_Value he_E_api_Pair hz_E_api_Pair he_E_int hz_E_int p_tree_Right p_tree_alike s_tree_Right s_tree_alike stk m v0_0 v0_1 v0_2 v0_3 v0_4 v1_0 v1_1 v1_2 v1_3 v1_4 hp
noncomputable def p_tree_Alike : S_api_Value → S_api_Value → Option (Bool) := fun ⟨v0_0, v0_1, v0_2, v0_3, v0_4⟩ ⟨v1_0, v1_1, v1_2, v1_3, v1_4⟩ => p_tree_Alike_0  v0_0 v0_1 v0_2 v0_3 v0_4 v1_0 v1_1 v1_2 v1_3 v1_4
theorem s_tree_Alike : (C_tree_Alike PC FC @XM E_api_Value E_api_Pair p_tree_Alike) := by
  intro _ _ _ _ _ _ _ _ _ _ _ hp stk    
  exact pf_of (T := table) (G := glob) (f := 27) rfl rfl (s_tree_Alike_0   (topN stk + 1)    hp stk )
noncomputable def p_cascaderef03_Sorted_9 (c_cascaderef03_Sorted : S_api_Value → Option (S_api_Value)) (v1_0 v1_1 : Int) (v1_2 : Str) (v1_3 : Ls0) (v1_4 : Ls1) (v5 v7 o2_0 o2_1 : Int) (o2_2 : Str) (o2_3 : Ls0) (o2_4 : Ls1) (o3_0 o3_1 : Int) (o3_2 : Str) (o3_3_g : Nat) (o3_3 : Ls0) (o3_4 : Ls1) (o6_0 : Str) (o6_1 o6_2 : Int) (o6_3 : Str) (o6_4 : Ls0) (o6_5 : Ls1) : Option ((Int × Int × Str × Ls0 × Ls1 × Int × Int × Int × Str × Ls0 × Ls1 × Int × Int × Str × Nat × Ls0 × Ls1) ⊕ (S_api_Value)) := b_cascaderef03_Sorted_9 Prims.real c_cascaderef03_Sorted  v1_0 v1_1 v1_2 v1_3 v1_4 v5 v7 o2_0 o2_1 o2_2 o2_3 o2_4 o3_0 o3_1 o3_2 o3_3_g o3_3 o3_4 o6_0 o6_1 o6_2 o6_3 o6_4 o6_5
theorem s_cascaderef03_Sorted_9 (c_cascaderef03_Sorted : S_api_Value → Option (S_api_Value)) (h_cascaderef03_Sorted : (C_cascaderef03_Sorted PC FC @XM E_api_Value E_api_Pair c_cascaderef03_Sorted)) (m : Nat)    : H_cascaderef03_Sorted_9 AT @XM List.length E_api_Value E_api_Pair m  (p_cascaderef03_Sorted_9 c_cascaderef03_Sorted) := by
  intro v1_0 v1_1 v1_2 v1_3 v1_4 v5 v7 o2_0 o2_1 o2_2 o2_3 o2_4 o3_0 o3_1 o3_2 o3_3_g o3_3 o3_4 o6_0 o6_1 o6_2 o6_3 o6_4 o6_5 out hp stk 
  exact o_cascaderef03_Sorted_9 LW rfl rfl he_E_api_Value hz_E_api_Value he_E_api_Pair hz_E_api_Pair he_E_int hz_E_int c_cascaderef03_Sorted h_cascaderef03_Sorted stk m v1_0 v1_1 v1_2 v1_3 v1_4 v5 v7 o2_0 o2_1 o2_2 o2_3 o2_4 o3_0 o3_1 o3_2 o3_3_g o3_3 o3_4 o6_0 o6_1 o6_2 o6_3 o6_4 o6_5 hp
noncomputable def p_cascaderef03_Sorted_7 (c_cascaderef03_Sorted : S_api_Value → Option (S_api_Value)) (v1_0 v1_1 : Int) (v1_2 : Str) (v1_3 : Ls0) (v1_4 : Ls1) (v5 v7 o2_0 o2_1 : Int) (o2_2 : Str) (o2_3 : Ls0) (o2_4 : Ls1) (o3_0 o3_1 : Int) (o3_2 : Str) (o3_3_g : Nat) (o3_3 : Ls0) (o3_4 : Ls1) (o6_0 : Str) (o6_1 o6_2 : Int) (o6_3 : Str) (o6_4 : Ls0) (o6_5 : Ls1) : Option ((Int × Int × Str × Ls0 × Ls1 × Int × Int × Int × Str × Ls0 × Ls1 × Int × Int × Str × Nat × Ls0 × Ls1) ⊕ (S_api_Value)) := Prims.real.loop (fun (s : Int × Int × Str × Ls0 × Ls1 × Int × Int × Int × Int × Str × Ls0 × Ls1 × Int × Int × Str × Nat × Ls0 × Ls1 × Str × Int × Int × Str × Ls0 × Ls1) => match s with | (v1_0, v1_1, v1_2, v1_3, v1_4, v5, v7, o2_0, o2_1, o2_2, o2_3, o2_4, o3_0, o3_1, o3_2, o3_3_g, o3_3, o3_4, o6_0, o6_1, o6_2, o6_3, o6_4, o6_5) => b_cascaderef03_Sorted_7 Prims.real c_cascaderef03_Sorted (p_cascaderef03_Sorted_9 c_cascaderef03_Sorted) v1_0 v1_1 v1_2 v1_3 v1_4 v5 v7 o2_0 o2_1 o2_2 o2_3 o2_4 o3_0 o3_1 o3_2 o3_3_g o3_3 o3_4 o6_0 o6_1 o6_2 o6_3 o6_4 o6_5) (v1_0, v1_1, v1_2, v1_3, v1_4, v5, v7, o2_0, o2_1, o2_2, o2_3, o2_4, o3_0, o3_1, o3_2, o3_3_g, o3_3, o3_4, o6_0, o6_1, o6_2, o6_3, o6_4, o6_5)
theorem u_cascaderef03_Sorted_7 (c_cascaderef03_Sorted : S_api_Value → Option (S_api_Value)) (v1_0 v1_1 : Int) (v1_2 : Str) (v1_3 : Ls0) (v1_4 : Ls1) (v5 v7 o2_0 o2_1 : Int) (o2_2 : Str) (o2_3 : Ls0) (o2_4 : Ls1) (o3_0 o3_1 : Int) (o3_2 : Str) (o3_3_g : Nat) (o3_3 : Ls0) (o3_4 : Ls1) (o6_0 : Str) (o6_1 o6_2 : Int) (o6_3 : Str) (o6_4 : Ls0) (o6_5 : Ls1) : p_cascaderef03_Sorted_7 c_cascaderef03_Sorted v1_0 v1_1 v1_2 v1_3 v1_4 v5 v7 o2_0 o2_1 o2_2 o2_3 o2_4 o3_0 o3_1 o3_2 o3_3_g o3_3 o3_4 o6_0 o6_1 o6_2 o6_3 o6_4 o6_5 = match b_cascaderef03_Sorted_7 Prims.real c_cascaderef03_Sorted (p_cascaderef03_Sorted_9 c_cascaderef03_Sorted) v1_0 v1_1 v1_2 v1_3 v1_4 v5 v7 o2_0 o2_1 o2_2 o2_3 o2_4 o3_0 o3_1 o3_2 o3_3_g o3_3 o3_4 o6_0 o6_1 o6_2 o6_3 o6_4 o6_5 with
    | some (.inl (v1_0', v1_1', v1_2', v1_3', v1_4', v5', v7', o2_0', o2_1', o2_2', o2_3', o2_4', o3_0', o3_1', o3_2', o3_3_g', o3_3', o3_4', o6_0', o6_1', o6_2', o6_3', o6_4', o6_5')) => p_cascaderef03_Sorted_7 c_cascaderef03_Sorted v1_0' v1_1' v1_2' v1_3' v1_4' v5' v7' o2_0' o2_1' o2_2' o2_3' o2_4' o3_0' o3_1' o3_2' o3_3_g' o3_3' o3_4' o6_0' o6_1' o6_2' o6_3' o6_4' o6_5'
    | some (.inr r) => some r
    | none => none := by
  show Pr.loop _ _ = _
  rw [Pr.loop_eq]
  try dsimp only
  generalize b_cascaderef03_Sorted_7 Prims.real c_cascaderef03_Sorted (p_cascaderef03_Sorted_9 c_cascaderef03_Sorted) v1_0 v1_1 v1_2 v1_3 v1_4 v5 v7 o2_0 o2_1 o2_2 o2_3 o2_4 o3_0 o3_1 o3_2 o3_3_g o3_3 o3_4 o6_0 o6_1 o6_2 o6_3 o6_4 o6_5 = y
  cases y with
  | none => rfl
  | some y => cases y <;> rfl
theorem s_cascaderef03_Sorted_7 (c_cascaderef03_Sorted : S_api_Value → Option (S_api_Value)) (h_cascaderef03_Sorted : (C_cascaderef03_Sorted PC FC @XM E_api_Value E_api_Pair c_cascaderef03_Sorted)) (m : Nat)    : H_cascaderef03_Sorted_7 AT @XM List.length E_api_Value E_api_Pair m  (p_cascaderef03_Sorted_7 c_cascaderef03_Sorted) := by
  intro v1_0 v1_1 v1_2 v1_3 v1_4 v5 v7 o2_0 o2_1 o2_2 o2_3 o2_4 o3_0 o3_1 o3_2 o3_3_g o3_3 o3_4 o6_0 o6_1 o6_2 o6_3 o6_4 o6_5 out hp stk 
  refine LW.ind _ (fun (s : Int × Int × Str × Ls0 × Ls1 × Int × Int × Int × Int × Str × Ls0 × Ls1 × Int × Int × Str × Nat × Ls0 × Ls1 × Str × Int × Int × Str × Ls0 × Ls1) o => match s with | (v1_0, v1_1, v1_2, v1_3, v1_4, v5, v7, o2_0, o2_1, o2_2, o2_3, o2_4, o3_0, o3_1, o3_2, o3_3_g, o3_3, o3_4, o6_0, o6_1, o6_2, o6_3, o6_4, o6_5) => ∀ (stk : Stk), (A_cascaderef03_Sorted_7 AT @XM List.length E_api_Value E_api_Pair m  v1_0 v1_1 v1_2 v1_3 v1_4 v5 v7 o2_0 o2_1 o2_2 o2_3 o2_4 o3_0 o3_1 o3_2 o3_3_g o3_3 o3_4 o6_0 o6_1 o6_2 o6_3 o6_4 o6_5 stk) = (Sum.elim (fun (v1_0, v1_1, v1_2, v1_3, v1_4, v5, o2_0, o2_1, o2_2, o2_3, o2_4, o3_0, o3_1, o3_2, o3_3_g, o3_3, o3_4) => (A_cascaderef03_Sorted_5 AT @XM List.length E_api_Value E_api_Pair m  v1_0 v1_1 v1_2 v1_3 v1_4 v5 o2_0 o2_1 o2_2 o2_3 o2_4 o3_0 o3_1 o3_2 o3_3_g o3_3 o3_4 stk)) (O_cascaderef03_Sorted @XM E_api_Value E_api_Pair m  stk)) o) (fun s r e => ?_) (fun s t r e ih => ?_) (v1_0, v1_1, v1_2, v1_3, v1_4, v5, v7, o2_0, o2_1, o2_2, o2_3, o2_4, o3_0, o3_1, o3_2, o3_3_g, o3_3, o3_4, o6_0, o6_1, o6_2, o6_3, o6_4, o6_5) out hp stk 
  · obtain ⟨v1_0, v1_1, v1_2, v1_3, v1_4, v5, v7, o2_0, o2_1, o2_2, o2_3, o2_4, o3_0, o3_1, o3_2, o3_3_g, o3_3, o3_4, o6_0, o6_1, o6_2, o6_3, o6_4, o6_5⟩ := s
    intro stk 
    exact o_cascaderef03_Sorted_7 LW rfl rfl he_E_api_Value hz_E_api_Value he_E_api_Pair hz_E_api_Pair he_E_int hz_E_int c_cascaderef03_Sorted h_cascaderef03_Sorted stk m (p_cascaderef03_Sorted_9 c_cascaderef03_Sorted) v1_0 v1_1 v1_2 v1_3 v1_4 v5 v7 o2_0 o2_1 o2_2 o2_3 o2_4 o3_0 o3_1 o3_2 o3_3_g o3_3 o3_4 o6_0 o6_1 o6_2 o6_3 o6_4 o6_5 (s_cascaderef03_Sorted_9 c_cascaderef03_Sorted h_cascaderef03_Sorted m ) e
  · obtain ⟨v1_0, v1_1, v1_2, v1_3, v1_4, v5, v7, o2_0, o2_1, o2_2, o2_3, o2_4, o3_0, o3_1, o3_2, o3_3_g, o3_3, o3_4, o6_0, o6_1, o6_2, o6_3, o6_4, o6_5⟩ := s; obtain ⟨v1_0', v1_1', v1_2', v1_3', v1_4', v5', v7', o2_0', o2_1', o2_2', o2_3', o2_4', o3_0', o3_1', o3_2', o3_3_g', o3_3', o3_4', o6_0', o6_1', o6_2', o6_3', o6_4', o6_5'⟩ := t
    intro stk 
    exact (o_cascaderef03_Sorted_7 LW rfl rfl he_E_api_Value hz_E_api_Value he_E_api_Pair hz_E_api_Pair he_E_int hz_E_int c_cascaderef03_Sorted h_cascaderef03_Sorted stk m (p_cascaderef03_Sorted_9 c_cascaderef03_Sorted) v1_0 v1_1 v1_2 v1_3 v1_4 v5 v7 o2_0 o2_1 o2_2 o2_3 o2_4 o3_0 o3_1 o3_2 o3_3_g o3_3 o3_4 o6_0 o6_1 o6_2 o6_3 o6_4 o6_5 (s_cascaderef03_Sorted_9 c_cascaderef03_Sorted h_cascaderef03_Sorted m ) e).trans (ih stk )
noncomputable def p_cascaderef03_Sorted_5 (c_cascaderef03_Sorted : S_api_Value → Option (S_api_Value)) (v1_0 v1_1 : Int) (v1_2 : Str) (v1_3 : Ls0) (v1_4 : Ls1) (v5 o2_0 o2_1 : Int) (o2_2 : Str) (o2_3 : Ls0) (o2_4 : Ls1) (o3_0 o3_1 : Int) (o3_2 : Str) (o3_3_g : Nat) (o3_3 : Ls0) (o3_4 : Ls1) : Option (S_api_Value) := Prims.real.loop (fun (s : Int × Int × Str × Ls0 × Ls1 × Int × Int × Int × Str × Ls0 × Ls1 × Int × Int × Str × Nat × Ls0 × Ls1) => match s with | (v1_0, v1_1, v1_2, v1_3, v1_4, v5, o2_0, o2_1, o2_2, o2_3, o2_4, o3_0, o3_1, o3_2, o3_3_g, o3_3, o3_4) => b_cascaderef03_Sorted_5 Prims.real c_cascaderef03_Sorted (p_cascaderef03_Sorted_7 c_cascaderef03_Sorted) v1_0 v1_1 v1_2 v1_3 v1_4 v5 o2_0 o2_1 o2_2 o2_3 o2_4 o3_0 o3_1 o3_2 o3_3_g o3_3 o3_4) (v1_0, v1_1, v1_2, v1_3, v1_4, v5, o2_0, o2_1, o2_2, o2_3, o2_4, o3_0, o3_1, o3_2, o3_3_g, o3_3, o3_4)
theorem u_cascaderef03_Sorted_5 (c_cascaderef03_Sorted : S_api_Value → Option (S_api_Value)) (v1_0 v1_1 : Int) (v1_2 : Str) (v1_3 : Ls0) (v1_4 : Ls1) (v5 o2_0 o2_1 : Int) (o2_2 : Str) (o2_3 : Ls0) (o2_4 : Ls1) (o3_0 o3_1 : Int) (o3_2 : Str) (o3_3_g : Nat) (o3_3 : Ls0) (o3_4 : Ls1) : p_cascaderef03_Sorted_5 c_cascaderef03_Sorted v1_0 v1_1 v1_2 v1_3 v1_4 v5 o2_0 o2_1 o2_2 o2_3 o2_4 o3_0 o3_1 o3_2 o3_3_g o3_3 o3_4 = match b_cascaderef03_Sorted_5 Prims.real c_cascaderef03_Sorted (p_cascaderef03_Sorted_7 c_cascaderef03_Sorted) v1_0 v1_1 v1_2 v1_3 v1_4 v5 o2_0 o2_1 o2_2 o2_3 o2_4 o3_0 o3_1 o3_2 o3_3_g o3_3 o3_4 with
    | some (.inl (v1_0', v1_1', v1_2', v1_3', v1_4', v5', o2_0', o2_1', o2_2', o2_3', o2_4', o3_0', o3_1', o3_2', o3_3_g', o3_3', o3_4')) => p_cascaderef03_Sorted_5 c_cascaderef03_Sorted v1_0' v1_1' v1_2' v1_3' v1_4' v5' o2_0' o2_1' o2_2' o2_3' o2_4' o3_0' o3_1' o3_2' o3_3_g' o3_3' o3_4'
    | some (.inr r) => some r
    | none => none := by
  show Pr.loop _ _ = _
  rw [Pr.loop_eq]
  try dsimp only
  generalize b_cascaderef03_Sorted_5 Prims.real c_cascaderef03_Sorted (p_cascaderef03_Sorted_7 c_cascaderef03_Sorted) v1_0 v1_1 v1_2 v1_3 v1_4 v5 o2_0 o2_1 o2_2 o2_3 o2_4 o3_0 o3_1 o3_2 o3_3_g o3_3 o3_4 = y
  cases y with
  | none => rfl
  | some y => cases y <;> rfl
theorem s_cascaderef03_Sorted_5 (c_cascaderef03_Sorted : S_api_Value → Option (S_api_Value)) (h_cascaderef03_Sorted : (C_cascaderef03_Sorted PC FC @XM E_api_Value E_api_Pair c_cascaderef03_Sorted)) (m : Nat)    : H_cascaderef03_Sorted_5 AT @XM List.length E_api_Value E_api_Pair m  (p_cascaderef03_Sorted_5 c_cascaderef03_Sorted) := by
  intro v1_0 v1_1 v1_2 v1_3 v1_4 v5 o2_0 o2_1 o2_2 o2_3 o2_4 o3_0 o3_1 o3_2 o3_3_g o3_3 o3_4 out hp stk 
  refine LW.ind _ (fun (s : Int × Int × Str × Ls0 × Ls1 × Int × Int × Int × Str × Ls0 × Ls1 × Int × Int × Str × Nat × Ls0 × Ls1) o => match s with | (v1_0, v1_1, v1_2, v1_3, v1_4, v5, o2_0, o2_1, o2_2, o2_3, o2_4, o3_0, o3_1, o3_2, o3_3_g, o3_3, o3_4) => ∀ (stk : Stk), (A_cascaderef03_Sorted_5 AT @XM List.length E_api_Value E_api_Pair m  v1_0 v1_1 v1_2 v1_3 v1_4 v5 o2_0 o2_1 o2_2 o2_3 o2_4 o3_0 o3_1 o3_2 o3_3_g o3_3 o3_4 stk) = (O_cascaderef03_Sorted @XM E_api_Value E_api_Pair m  stk) o) (fun s r e => ?_) (fun s t r e ih => ?_) (v1_0, v1_1, v1_2, v1_3, v1_4, v5, o2_0, o2_1, o2_2, o2_3, o2_4, o3_0, o3_1, o3_2, o3_3_g, o3_3, o3_4) out hp stk 
  · obtain ⟨v1_0, v1_1, v1_2, v1_3, v1_4, v5, o2_0, o2_1, o2_2, o2_3, o2_4, o3_0, o3_1, o3_2, o3_3_g, o3_3, o3_4⟩ := s
    intro stk 
    exact o_cascaderef03_Sorted_5 LW rfl rfl he_E_api_Value hz_E_api_Value he_E_api_Pair hz_E_api_Pair he_E_int hz_E_int c_cascaderef03_Sorted h_cascaderef03_Sorted stk m (p_cascaderef03_Sorted_7 c_cascaderef03_Sorted) v1_0 v1_1 v1_2 v1_3 v1_4 v5 o2_0 o2_1 o2_2 o2_3 o2_4 o3_0 o3_1 o3_2 o3_3_g o3_3 o3_4 (s_cascaderef03_Sorted_7 c_cascaderef03_Sorted h_cascaderef03_Sorted m ) e
  · obtain ⟨v1_0, v1_1, v1_2, v1_3, v1_4, v5, o2_0, o2_1, o2_2, o2_3, o2_4, o3_0, o3_1, o3_2, o3_3_g, o3_3, o3_4⟩ := s; obtain ⟨v1_0', v1_1', v1_2', v1_3', v1_4', v5', o2_0', o2_1', o2_2', o2_3', o2_4', o3_0', o3_1', o3_2', o3_3_g', o3_3', o3_4'⟩ := t
    intro stk 
    exact (o_cascaderef03_Sorted_5 LW rfl rfl he_E_api_Value hz_E_api_Value he_E_api_Pair hz_E_api_Pair he_E_int hz_E_int c_cascaderef03_Sorted h_cascaderef03_Sorted stk m (p_cascaderef03_Sorted_7 c_cascaderef03_Sorted) v1_0 v1_1 v1_2 v1_3 v1_4 v5 o2_0 o2_1 o2_2 o2_3 o2_4 o3_0 o3_1 o3_2 o3_3_g o3_3 o3_4 (s_cascaderef03_Sorted_7 c_cascaderef03_Sorted h_cascaderef03_Sorted m ) e).trans (ih stk )
noncomputable def p_cascaderef03_Sorted_1 (c_cascaderef03_Sorted : S_api_Value → Option (S_api_Value)) (v1_0 v1_1 : Int) (v1_2 : Str) (v1_3 : Ls0) (v1_4 : Ls1) (v4 o2_0 o2_1 : Int) (o2_2 : Str) (o2_3 : Ls0) (o2_4 : Ls1) (o3_0 o3_1 : Int) (o3_2 : Str) (o3_3_g : Nat) (o3_3 : Ls0) (o3_4 : Ls1) : Option (S_api_Value) := Prims.real.loop (fun (s : Int × Int × Str × Ls0 × Ls1 × Int × Int × Int × Str × Ls0 × Ls1 × Int × Int × Str × Nat × Ls0 × Ls1) => match s with | (v1_0, v1_1, v1_2, v1_3, v1_4, v4, o2_0, o2_1, o2_2, o2_3, o2_4, o3_0, o3_1, o3_2, o3_3_g, o3_3, o3_4) => b_cascaderef03_Sorted_1 Prims.real c_cascaderef03_Sorted (p_cascaderef03_Sorted_5 c_cascaderef03_Sorted) v1_0 v1_1 v1_2 v1_3 v1_4 v4 o2_0 o2_1 o2_2 o2_3 o2_4 o3_0 o3_1 o3_2 o3_3_g o3_3 o3_4) (v1_0, v1_1, v1_2, v1_3, v1_4, v4, o2_0, o2_1, o2_2, o2_3, o2_4, o3_0, o3_1, o3_2, o3_3_g, o3_3, o3_4)
theorem u_cascaderef03_Sorted_1 (c_cascaderef03_Sorted : S_api_Value → Option (S_api_Value)) (v1_0 v1_1 : Int) (v1_2 : Str) (v1_3 : Ls0) (v1_4 : Ls1) (v4 o2_0 o2_1 : Int) (o2_2 : Str) (o2_3 : Ls0) (o2_4 : Ls1) (o3_0 o3_1 : Int) (o3_2 : Str) (o3_3_g : Nat) (o3_3 : Ls0) (o3_4 : Ls1) : p_cascaderef03_Sorted_1 c_cascaderef03_Sorted v1_0 v1_1 v1_2 v1_3 v1_4 v4 o2_0 o2_1 o2_2 o2_3 o2_4 o3_0 o3_1 o3_2 o3_3_g o3_3 o3_4 = match b_cascaderef03_Sorted_1 Prims.real c_cascaderef03_Sorted (p_cascaderef03_Sorted_5 c_cascaderef03_Sorted) v1_0 v1_1 v1_2 v1_3 v1_4 v4 o2_0 o2_1 o2_2 o2_3 o2_4 o3_0 o3_1 o3_2 o3_3_g o3_3 o3_4 with
    | some (.inl (v1_0', v1_1', v1_2', v1_3', v1_4', v4', o2_0', o2_1', o2_2', o2_3', o2_4', o3_0', o3_1', o3_2', o3_3_g', o3_3', o3_4')) => p_cascaderef03_Sorted_1 c_cascaderef03_Sorted v1_0' v1_1' v1_2' v1_3' v1_4' v4' o2_0' o2_1' o2_2' o2_3' o2_4' o3_0' o3_1' o3_2' o3_3_g' o3_3' o3_4'
    | some (.inr r) => some r
    | none => none := by
  show Pr.loop _ _ = _
  rw [Pr.loop_eq]
  try dsimp only
  generalize b_cascaderef03_Sorted_1 Prims.real c_cascaderef03_Sorted (p_cascaderef03_Sorted_5 c_cascaderef03_Sorted) v1_0 v1_1 v1_2 v1_3 v1_4 v4 o2_0 o2_1 o2_2 o2_3 o2_4 o3_0 o3_1 o3_2 o3_3_g o3_3 o3_4 = y
  cases y with
  | none => rfl
  | some y => cases y <;> rfl
theorem s_cascaderef03_Sorted_1 (c_cascaderef03_Sorted : S_api_Value → Option (S_api_Value)) (h_cascaderef03_Sorted : (C_cascaderef03_Sorted PC FC @XM E_api_Value E_api_Pair c_cascaderef03_Sorted)) (m : Nat)    : H_cascaderef03_Sorted_1 AT @XM List.length E_api_Value E_api_Pair m  (p_cascaderef03_Sorted_1 c_cascaderef03_Sorted) := by
  intro v1_0 v1_1 v1_2 v1_3 v1_4 v4 o2_0 o2_1 o2_2 o2_3 o2_4 o3_0 o3_1 o3_2 o3_3_g o3_3 o3_4 out hp stk 
  refine LW.ind _ (fun (s : Int × Int × Str × Ls0 × Ls1 × Int × Int × Int × Str × Ls0 × Ls1 × Int × Int × Str × Nat × Ls0 × Ls1) o => match s with | (v1_0, v1_1, v1_2, v1_3, v1_4, v4, o2_0, o2_1, o2_2, o2_3, o2_4, o3_0, o3_1, o3_2, o3_3_g, o3_3, o3_4) => ∀ (stk : Stk), (A_cascaderef03_Sorted_1 AT @XM List.length E_api_Value E_api_Pair m  v1_0 v1_1 v1_2 v1_3 v1_4 v4 o2_0 o2_1 o2_2 o2_3 o2_4 o3_0 o3_1 o3_2 o3_3_g o3_3 o3_4 stk) = (O_cascaderef03_Sorted @XM E_api_Value E_api_Pair m  stk) o) (fun s r e => ?_) (fun s t r e ih => ?_) (v1_0, v1_1, v1_2, v1_3, v1_4, v4, o2_0, o2_1, o2_2, o2_3, o2_4, o3_0, o3_1, o3_2, o3_3_g, o3_3, o3_4) out hp stk 
  · obtain ⟨v1_0, v1_1, v1_2, v1_3, v1_4, v4, o2_0, o2_1, o2_2, o2_3, o2_4, o3_0, o3_1, o3_2, o3_3_g, o3_3, o3_4⟩ := s
    intro stk 
    exact o_cascaderef03_Sorted_1 LW rfl rfl he_E_api_Value hz_E_api_Value he_E_api_Pair hz_E_api_Pair he_E_int hz_E_int c_cascaderef03_Sorted h_cascaderef03_Sorted stk m (p_cascaderef03_Sorted_5 c_cascaderef03_Sorted) v1_0 v1_1 v1_2 v1_3 v1_4 v4 o2_0 o2_1 o2_2 o2_3 o2_4 o3_0 o3_1 o3_2 o3_3_g o3_3 o3_4 (s_cascaderef03_Sorted_5 c_cascaderef03_Sorted h_cascaderef03_Sorted m ) e
  · obtain ⟨v1_0, v1_1, v1_2, v1_3, v1_4, v4, o2_0, o2_1, o2_2, o2_3, o2_4, o3_0, o3_1, o3_2, o3_3_g, o3_3, o3_4⟩ := s; obtain ⟨v1_0', v1_1', v1_2', v1_3', v1_4', v4', o2_0', o2_1', o2_2', o2_3', o2_4', o3_0', o3_1', o3_2', o3_3_g', o3_3', o3_4'⟩ := t
    intro stk 
    exact (o_cascaderef03_Sorted_1 LW rfl rfl he_E_api_Value hz_E_api_Value he_E_api_Pair hz_E_api_Pair he_E_int hz_E_int c_cascaderef03_Sorted h_cascaderef03_Sorted stk m (p_cascaderef03_Sorted_5 c_cascaderef03_Sorted) v1_0 v1_1 v1_2 v1_3 v1_4 v4 o2_0 o2_1 o2_2 o2_3 o2_4 o3_0 o3_1 o3_2 o3_3_g o3_3 o3_4 (s_cascaderef03_Sorted_5 c_cascaderef03_Sorted h_cascaderef03_Sorted m ) e).trans (ih stk )
noncomputable def p_cascaderef03_Sorted_0 (c_cascaderef03_Sorted : S_api_Value → Option (S_api_Value)) (v0_0 v0_1 : Int) (v0_2 : Str) (v0_3 : Ls0) (v0_4 : Ls1) : Option (S_api_Value) := b_cascaderef03_Sorted_0 Prims.real c_cascaderef03_Sorted (p_cascaderef03_Sorted_1 c_cascaderef03_Sorted) v0_0 v0_1 v0_2 v0_3 v0_4
theorem s_cascaderef03_Sorted_0 (c_cascaderef03_Sorted : S_api_Value → Option (S_api_Value)) (h_cascaderef03_Sorted : (C_cascaderef03_Sorted PC FC @XM E_api_Value E_api_Pair c_cascaderef03_Sorted)) (m : Nat)    : H_cascaderef03_Sorted_0 AT @XM E_api_Value E_api_Pair m  (p_cascaderef03_Sorted_0 c_cascaderef03_Sorted) := by
  intro v0_0 v0_1 v0_2 v0_3 v0_4 out hp stk 
  exact o_cascaderef03_Sorted_0 LW rfl rfl he_E_api_Value hz_E_api_Value he_E_api_Pair hz_E_api_Pair he_E_int hz_E_int c_cascaderef03_Sorted h_cascaderef03_Sorted stk m (p_cascaderef03_Sorted_1 c_cascaderef03_Sorted) v0_0 v0_1 v0_2 v0_3 v0_4 (s_cascaderef03_Sorted_1 c_cascaderef03_Sorted h_cascaderef03_Sorted m ) hp
noncomputable def pk_cascaderef03_Sorted : Nat → (S_api_Value → Option (S_api_Value))
  | 0 => fun _ => none
  | k + 1 => fun ⟨v0_0, v0_1, v0_2, v0_3, v0_4⟩ => p_cascaderef03_Sorted_0 ((pk_cascaderef03_Sorted k)) v0_0 v0_1 v0_2 v0_3 v0_4
theorem sk_cascaderef03_Sorted : ∀ k, ((C_cascaderef03_Sorted PC FC @XM E_api_Value E_api_Pair ((pk_cascaderef03_Sorted k)))) ∧ True
  | 0 => by
    refine ⟨?_, trivial⟩
    · intro _ _ _ _ _ _ _ _ _ _ hp; exact nomatch (show none = some _ from hp)
  | k + 1 => by
    obtain ⟨ih0, _⟩ := sk_cascaderef03_Sorted k
    refine ⟨?_, trivial⟩
    · intro _ _ _ _ _ _ _ _ _ _ hp stk    
      exact pf_of (T := table) (G := glob) (f := 28) rfl rfl (s_cascaderef03_Sorted_0 ((pk_cascaderef03_Sorted k)) ih0 (topN stk + 1)    hp stk )
noncomputable def p_cascaderef03_Sorted : S_api_Value → Option (S_api_Value) := (pk_cascaderef03_Sorted 1000000)
theorem s_cascaderef03_Sorted : (C_cascaderef03_Sorted PC FC @XM E_api_Value E_api_Pair p_cascaderef03_Sorted) := (sk_cascaderef03_Sorted 1000000).1
noncomputable def p_cascadelaw03_TreeSame_2  (v2_0 v2_1 : Int) (v2_2 : Str) (v2_3 : Ls0) (v2_4 : Ls1) (v3_0 v3_1 : Int) (v3_2 : Str) (v3_3 : Ls0) (v3_4 : Ls1) (v5 : Bool) : Option (Bool) := b_cascadelaw03_TreeSame_2 Prims.real p_cascadelaw03_awake p_cascaderef03_Few p_cascaderef03_Right p_tree_Same p_cascaderef03_Same p_tree_Alike p_cascaderef03_Sorted  v2_0 v2_1 v2_2 v2_3 v2_4 v3_0 v3_1 v3_2 v3_3 v3_4 v5
theorem s_cascadelaw03_TreeSame_2   (m : Nat)    : H_cascadelaw03_TreeSame_2 AT @XM E_api_Value E_api_Pair m  p_cascadelaw03_TreeSame_2 := by
  intro v2_0 v2_1 v2_2 v2_3 v2_4 v3_0 v3_1 v3_2 v3_3 v3_4 v5 out hp stk 
  exact o_cascadelaw03_TreeSame_2 LW rfl rfl he_E_api_Value hz_E_api_Value he_E_api_Pair hz_E_api_Pair he_E_int hz_E_int p_cascadelaw03_awake p_cascaderef03_Few p_cascaderef03_Right p_tree_Same p_cascaderef03_Same p_tree_Alike p_cascaderef03_Sorted s_cascadelaw03_awake s_cascaderef03_Few s_cascaderef03_Right s_tree_Same s_cascaderef03_Same s_tree_Alike s_cascaderef03_Sorted stk m v2_0 v2_1 v2_2 v2_3 v2_4 v3_0 v3_1 v3_2 v3_3 v3_4 v5 hp
noncomputable def p_cascadelaw03_TreeSame_0  (v0_0 v0_1 : Int) (v0_2 : Str) (v0_3 : Ls0) (v0_4 : Ls1) (v1_0 v1_1 : Int) (v1_2 : Str) (v1_3 : Ls0) (v1_4 : Ls1) : Option (Bool) := b_cascadelaw03_TreeSame_0 Prims.real p_cascadelaw03_awake p_cascaderef03_Few p_cascaderef03_Right p_tree_Same p_cascaderef03_Same p_tree_Alike p_cascaderef03_Sorted p_cascadelaw03_TreeSame_2 v0_0 v0_1 v0_2 v0_3 v0_4 v1_0 v1_1 v1_2 v1_3 v1_4
theorem s_cascadelaw03_TreeSame_0   (m : Nat)    : H_cascadelaw03_TreeSame_0 AT @XM E_api_Value E_api_Pair m  p_cascadelaw03_TreeSame_0 := by
  intro v0_0 v0_1 v0_2 v0_3 v0_4 v1_0 v1_1 v1_2 v1_3 v1_4 out hp stk 
  exact o_cascadelaw03_TreeSame_0 LW rfl rfl he_E_api_Value hz_E_api_Value he_E_api_Pair hz_E_api_Pair he_E_int hz_E_int p_cascadelaw03_awake p_cascaderef03_Few p_cascaderef03_Right p_tree_Same p_cascaderef03_Same p_tree_Alike p_cascaderef03_Sorted s_cascadelaw03_awake s_cascaderef03_Few s_cascaderef03_Right s_tree_Same s_cascaderef03_Same s_tree_Alike s_cascaderef03_Sorted stk m p_cascadelaw03_TreeSame_2 v0_0 v0_1 v0_2 v0_3 v0_4 v1_0 v1_1 v1_2 v1_3 v1_4 (s_cascadelaw03_TreeSame_2 m ) hp
noncomputable def p_cascadelaw03_TreeSame : S_api_Value → S_api_Value → Option (Bool) := fun ⟨v0_0, v0_1, v0_2, v0_3, v0_4⟩ ⟨v1_0, v1_1, v1_2, v1_3, v1_4⟩ => p_cascadelaw03_TreeSame_0  v0_0 v0_1 v0_2 v0_3 v0_4 v1_0 v1_1 v1_2 v1_3 v1_4
theorem s_cascadelaw03_TreeSame : (C_cascadelaw03_TreeSame PC FC @XM E_api_Value E_api_Pair p_cascadelaw03_TreeSame) := by
  intro _ _ _ _ _ _ _ _ _ _ _ hp stk    
  exact pf_of (T := table) (G := glob) (f := 6) rfl rfl (s_cascadelaw03_TreeSame_0   (topN stk + 1)    hp stk )
end Go.Abs.T
