import Derived.Test.YtncemafmkkphjaaDoorWA
import Derived.KernelRfl
set_option linter.unusedVariables false
namespace Go.Abs.A
set_option maxRecDepth 100000
theorem table_ok : ∀ f kf, table f = some kf → kf.ok = true := by
  intro f kf h
  unfold table at h
  split at h <;> first | (cases h; done) | (cases h; kernel_rfl)
theorem LW : KLaws (oldT table) iterW glob (callW (oldT table) glob) (sysW table glob).pcall (sysW table glob).fcall (List.length) (fun xs i => xs[i]?) (fun xs lo hi => (xs.take hi).drop lo) (fun xs ys => xs ++ ys) (fun xs i x => xs.set i x) (fun n x => List.replicate n x) (allSz) (List.length) (fun s i => s[i]?) (fun s lo hi => (s.take hi).drop lo) (fun a b => a ++ b) (fun a b => a == b) (fun a b => Op.bytesLess a b) (fun s => s.map fun b => .int .u8 b.toNat) (bytesOf) (fun s i => Utf8.decode ⟨⟨s⟩⟩ i) (fun n => (Utf8.encode n).data.toList) (intAr) (intCmp) (fun k n => k.wrap n) (fun n => decide (n = 0)) (fun n => decide (n < 0)) (fun n => n.toNat) (fun (n : Nat) => (n : Int)) (fun (b : UInt8) => (b.toNat : Int)) (fun a b => decide (a ≤ b)) (fun a b => a + b) (fun a b => a - b) (fun n b => decide (n * b ≤ room ∧ n ≤ room)) (findE) (Go.Abs.putE) (Go.Abs.findK) (List.length) (frzMap) (atW table glob) (fun s => topN s + 1) sameStk (fun {_} e l => List.map e l) Pr.quo Pr.shf Pr.slen Pr.sidx Pr.ssub Pr.scat Pr.sit Pr.slist Pr.ofBytes @Pr.len @Pr.idx @Pr.sub @Pr.app @Pr.set @Pr.make @Pr.loop table := KLaws.real (G := glob) table_ok
def E_int32 : Int → D := fun x => (.int .i32 x)
def E_uint8 : Int → D := fun x => (.int .u8 x)
theorem s_unicode_utf8_DecodeRuneInString : ∀ {a0 : Str} {r0 : Int} {r1 : Int}, p_unicode_utf8_DecodeRuneInString a0 = some (r0, r1) → ∀ stk, (sysW table glob).pcall 38 [(.d (.str a0))] stk = some (.d (.tup [(.int .i32 r0), (.int .i64 r1)])) := by
  intro _ _ _ hp stk
  exact pcall_ext (T := table) (G := glob) (f := 38) (e := ext_unicode_utf8_DecodeRuneInString) rfl rfl (x_unicode_utf8_DecodeRuneInString hp) stk
def p_strings_Builder_WriteRune : Str → Int → Option (Str × Int) := brune
theorem s_strings_Builder_WriteRune : ∀ {s : Str} {a : Int} {s1 : Str} {n : Int}, p_strings_Builder_WriteRune s a = some (s1, n) → ∀ stk l l1 u g, getO stk l = some (.bld 53 u (.msl l1 g 0 0)) → getO stk l1 = some (.hid 5 g s) → (sysW table glob).fcall 42 [.ref l 0, .d (.int .i32 a)] stk = some (.d (.tup [.int .i64 n, .nili]), setO (setO stk l1 (.hid 5 (g + 1) s1)) l (.bld 53 true (.msl l1 (g + 1) 0 0))) := by
  intro _ _ _ _ hp stk l l1 u g h1 h2
  exact fcall_eff (T := table) (G := glob) (f := 42) rfl rfl (brune_at h1 h2 hp)
def p_strings_Builder_String : Str → Option Str := btext
theorem s_strings_Builder_String : ∀ {s s1 : Str}, p_strings_Builder_String s = some s1 → ∀ stk l l1 u g, getO stk l = some (.bld 53 u (.msl l1 g 0 0)) → getO stk l1 = some (.hid 5 g s) → (sysW table glob).fcall 43 [.ref l 0] stk = some (.d (.str s1), setO (setO stk l1 (.hid 5 (g + 1) [])) l (.bld 53 u .dead)) := by
  intro _ _ hp stk l l1 u g h1 h2
  exact fcall_eff (T := table) (G := glob) (f := 43) rfl rfl (btext_at h1 h2 hp)
noncomputable def p_text_letter_0 (v0 : Int) : Option (Bool) := b_text_letter_0 Prims.real   v0
theorem s_text_letter_0 (stk : Stk) (m : Nat) (v0 : Int) {out} (hp : p_text_letter_0 v0 = some out) : atW table glob 34 true 0 [] ⟨[(0, (.d (.int .i32 v0)))], ⟨m, []⟩ :: stk⟩ = (fun r0 => (some (.ret (.d (.bool r0)), stk) : Rk')) out := by
  exact o_text_letter_0 (h := LW) (hT := rfl) (he_e_int32 := fun _ => rfl) (hz_e_int32 := fun l => LW.allsz E_int32 1 (fun a => ⟨rfl, rfl⟩) l) (he_e_uint8 := fun _ => rfl) (hz_e_uint8 := fun l => LW.allsz E_uint8 1 (fun a => ⟨rfl, rfl⟩) l)     stk m v0 hp
noncomputable def p_text_letter : Int → Option (Bool) := fun v0 => p_text_letter_0 v0
theorem s_text_letter : ∀ {a0 : Int} {r0 : Bool}, p_text_letter a0 = some r0 → ∀ stk, (sysW table glob).pcall 34 [(.d (.int .i32 a0))] stk = some (.d (.bool r0)) := by
  intro _ _ hp stk
  exact pcall_of (T := table) (G := glob) (f := 34) rfl rfl (s_text_letter_0 stk _ _ hp)
noncomputable def p_text_Name_1 (v0 : Str) (o6_s : Str) (o6_p : Nat) : Option (Bool) := Prims.real.loop (fun (s : Str × Str × Nat) => match s with | (v0, o6_s, o6_p) => b_text_Name_1 Prims.real p_text_letter  v0 o6_s o6_p) (v0, o6_s, o6_p)
theorem u_text_Name_1 (v0 : Str) (o6_s : Str) (o6_p : Nat) : p_text_Name_1 v0 o6_s o6_p = match b_text_Name_1 Prims.real p_text_letter  v0 o6_s o6_p with
    | some (.inl (v0', o6_s', o6_p')) => p_text_Name_1 v0' o6_s' o6_p'
    | some (.inr r) => some r
    | none => none := by
  show Pr.loop _ _ = _
  rw [Pr.loop_eq]
  dsimp only
  generalize b_text_Name_1 Prims.real p_text_letter  v0 o6_s o6_p = y
  cases y with
  | none => rfl
  | some y => cases y <;> rfl
theorem s_text_Name_1 (stk : Stk) (m : Nat) (v0 : Str) (o6_s : Str) (o6_p : Nat) {out} (hp : p_text_Name_1 v0 o6_s o6_p = some out) : atW table glob 15 true 1 [.lp ⟨1, [0, 6], [[6]]⟩, .blk 0, .sub ⟨3, [0], []⟩] ⟨[(0, (.d (.str v0))), (6, (.ref ⟨m, [6]⟩ 0))], ⟨m, [([6], (.siter o6_s o6_p))]⟩ :: stk⟩ = (fun r0 => (some (.ret (.d (.bool r0)), stk) : Rk')) out := by
  refine LW.ind (fun (s : Str × Str × Nat) => match s with | (v0, o6_s, o6_p) => b_text_Name_1 Prims.real p_text_letter  v0 o6_s o6_p) (fun (s : Str × Str × Nat) o => match s with | (v0, o6_s, o6_p) => atW table glob 15 true 1 [.lp ⟨1, [0, 6], [[6]]⟩, .blk 0, .sub ⟨3, [0], []⟩] ⟨[(0, (.d (.str v0))), (6, (.ref ⟨m, [6]⟩ 0))], ⟨m, [([6], (.siter o6_s o6_p))]⟩ :: stk⟩ = (fun r0 => (some (.ret (.d (.bool r0)), stk) : Rk')) o) (fun s r e => ?_) (fun s t r e ih => ?_) (v0, o6_s, o6_p) out hp
  · obtain ⟨v0, o6_s, o6_p⟩ := s
    exact o_text_Name_1 (h := LW) (hT := rfl) (he_e_int32 := fun _ => rfl) (hz_e_int32 := fun l => LW.allsz E_int32 1 (fun a => ⟨rfl, rfl⟩) l) (he_e_uint8 := fun _ => rfl) (hz_e_uint8 := fun l => LW.allsz E_uint8 1 (fun a => ⟨rfl, rfl⟩) l) (c_text_letter := p_text_letter) (h_text_letter := s_text_letter)   stk m v0 o6_s o6_p e
  · obtain ⟨v0, o6_s, o6_p⟩ := s; obtain ⟨v0', o6_s', o6_p'⟩ := t
    exact (o_text_Name_1 (h := LW) (hT := rfl) (he_e_int32 := fun _ => rfl) (hz_e_int32 := fun l => LW.allsz E_int32 1 (fun a => ⟨rfl, rfl⟩) l) (he_e_uint8 := fun _ => rfl) (hz_e_uint8 := fun l => LW.allsz E_uint8 1 (fun a => ⟨rfl, rfl⟩) l) (c_text_letter := p_text_letter) (h_text_letter := s_text_letter)   stk m v0 o6_s o6_p e).trans ih
noncomputable def p_text_Name_0 (v0 : Str) : Option (Bool) := b_text_Name_0 Prims.real p_text_letter p_text_Name_1 v0
theorem s_text_Name_0 (stk : Stk) (m : Nat) (v0 : Str) {out} (hp : p_text_Name_0 v0 = some out) : atW table glob 15 true 0 [] ⟨[(0, (.d (.str v0)))], ⟨m, []⟩ :: stk⟩ = (fun r0 => (some (.ret (.d (.bool r0)), stk) : Rk')) out := by
  exact o_text_Name_0 (h := LW) (hT := rfl) (he_e_int32 := fun _ => rfl) (hz_e_int32 := fun l => LW.allsz E_int32 1 (fun a => ⟨rfl, rfl⟩) l) (he_e_uint8 := fun _ => rfl) (hz_e_uint8 := fun l => LW.allsz E_uint8 1 (fun a => ⟨rfl, rfl⟩) l) (c_text_letter := p_text_letter) (h_text_letter := s_text_letter) (l_1 := p_text_Name_1) (h_l_1 := fun hp => s_text_Name_1 stk m _ _ _ hp) stk m v0 hp
noncomputable def p_text_Name : Str → Option (Bool) := fun v0 => p_text_Name_0 v0
theorem s_text_Name : ∀ {a0 : Str} {r0 : Bool}, p_text_Name a0 = some r0 → ∀ stk, (sysW table glob).pcall 15 [(.d (.str a0))] stk = some (.d (.bool r0)) := by
  intro _ _ hp stk
  exact pcall_of (T := table) (G := glob) (f := 15) rfl rfl (s_text_Name_0 stk _ _ hp)
noncomputable def p_text_Bad_1 (v0 : Str) (o8_s : Str) (o8_p : Nat) : Option (Int) := Prims.real.loop (fun (s : Str × Str × Nat) => match s with | (v0, o8_s, o8_p) => b_text_Bad_1 Prims.real p_unicode_utf8_DecodeRuneInString  v0 o8_s o8_p) (v0, o8_s, o8_p)
theorem u_text_Bad_1 (v0 : Str) (o8_s : Str) (o8_p : Nat) : p_text_Bad_1 v0 o8_s o8_p = match b_text_Bad_1 Prims.real p_unicode_utf8_DecodeRuneInString  v0 o8_s o8_p with
    | some (.inl (v0', o8_s', o8_p')) => p_text_Bad_1 v0' o8_s' o8_p'
    | some (.inr r) => some r
    | none => none := by
  show Pr.loop _ _ = _
  rw [Pr.loop_eq]
  dsimp only
  generalize b_text_Bad_1 Prims.real p_unicode_utf8_DecodeRuneInString  v0 o8_s o8_p = y
  cases y with
  | none => rfl
  | some y => cases y <;> rfl
theorem s_text_Bad_1 (stk : Stk) (m : Nat) (v0 : Str) (o8_s : Str) (o8_p : Nat) {out} (hp : p_text_Bad_1 v0 o8_s o8_p = some out) : atW table glob 19 true 1 [.lp ⟨1, [0, 8], [[8]]⟩, .blk 0, .sub ⟨4, [], []⟩] ⟨[(0, (.d (.str v0))), (8, (.ref ⟨m, [8]⟩ 0))], ⟨m, [([8], (.siter o8_s o8_p))]⟩ :: stk⟩ = (fun r0 => (some (.ret (.d (.int .i64 r0)), stk) : Rk')) out := by
  refine LW.ind (fun (s : Str × Str × Nat) => match s with | (v0, o8_s, o8_p) => b_text_Bad_1 Prims.real p_unicode_utf8_DecodeRuneInString  v0 o8_s o8_p) (fun (s : Str × Str × Nat) o => match s with | (v0, o8_s, o8_p) => atW table glob 19 true 1 [.lp ⟨1, [0, 8], [[8]]⟩, .blk 0, .sub ⟨4, [], []⟩] ⟨[(0, (.d (.str v0))), (8, (.ref ⟨m, [8]⟩ 0))], ⟨m, [([8], (.siter o8_s o8_p))]⟩ :: stk⟩ = (fun r0 => (some (.ret (.d (.int .i64 r0)), stk) : Rk')) o) (fun s r e => ?_) (fun s t r e ih => ?_) (v0, o8_s, o8_p) out hp
  · obtain ⟨v0, o8_s, o8_p⟩ := s
    exact o_text_Bad_1 (h := LW) (hT := rfl) (he_e_int32 := fun _ => rfl) (hz_e_int32 := fun l => LW.allsz E_int32 1 (fun a => ⟨rfl, rfl⟩) l) (he_e_uint8 := fun _ => rfl) (hz_e_uint8 := fun l => LW.allsz E_uint8 1 (fun a => ⟨rfl, rfl⟩) l) (c_unicode_utf8_DecodeRuneInString := p_unicode_utf8_DecodeRuneInString) (h_unicode_utf8_DecodeRuneInString := s_unicode_utf8_DecodeRuneInString)   stk m v0 o8_s o8_p e
  · obtain ⟨v0, o8_s, o8_p⟩ := s; obtain ⟨v0', o8_s', o8_p'⟩ := t
    exact (o_text_Bad_1 (h := LW) (hT := rfl) (he_e_int32 := fun _ => rfl) (hz_e_int32 := fun l => LW.allsz E_int32 1 (fun a => ⟨rfl, rfl⟩) l) (he_e_uint8 := fun _ => rfl) (hz_e_uint8 := fun l => LW.allsz E_uint8 1 (fun a => ⟨rfl, rfl⟩) l) (c_unicode_utf8_DecodeRuneInString := p_unicode_utf8_DecodeRuneInString) (h_unicode_utf8_DecodeRuneInString := s_unicode_utf8_DecodeRuneInString)   stk m v0 o8_s o8_p e).trans ih
noncomputable def p_text_Bad_0 (v0 : Str) : Option (Int) := b_text_Bad_0 Prims.real p_unicode_utf8_DecodeRuneInString p_text_Bad_1 v0
theorem s_text_Bad_0 (stk : Stk) (m : Nat) (v0 : Str) {out} (hp : p_text_Bad_0 v0 = some out) : atW table glob 19 true 0 [] ⟨[(0, (.d (.str v0)))], ⟨m, []⟩ :: stk⟩ = (fun r0 => (some (.ret (.d (.int .i64 r0)), stk) : Rk')) out := by
  exact o_text_Bad_0 (h := LW) (hT := rfl) (he_e_int32 := fun _ => rfl) (hz_e_int32 := fun l => LW.allsz E_int32 1 (fun a => ⟨rfl, rfl⟩) l) (he_e_uint8 := fun _ => rfl) (hz_e_uint8 := fun l => LW.allsz E_uint8 1 (fun a => ⟨rfl, rfl⟩) l) (c_unicode_utf8_DecodeRuneInString := p_unicode_utf8_DecodeRuneInString) (h_unicode_utf8_DecodeRuneInString := s_unicode_utf8_DecodeRuneInString) (l_1 := p_text_Bad_1) (h_l_1 := fun hp => s_text_Bad_1 stk m _ _ _ hp) stk m v0 hp
noncomputable def p_text_Bad : Str → Option (Int) := fun v0 => p_text_Bad_0 v0
theorem s_text_Bad : ∀ {a0 : Str} {r0 : Int}, p_text_Bad a0 = some r0 → ∀ stk, (sysW table glob).pcall 19 [(.d (.str a0))] stk = some (.d (.int .i64 r0)) := by
  intro _ _ hp stk
  exact pcall_of (T := table) (G := glob) (f := 19) rfl rfl (s_text_Bad_0 stk _ _ hp)
noncomputable def p_text_Right_0 (v0 : Str) : Option (Bool) := b_text_Right_0 Prims.real p_text_Bad  v0
theorem s_text_Right_0 (stk : Stk) (m : Nat) (v0 : Str) {out} (hp : p_text_Right_0 v0 = some out) : atW table glob 17 true 0 [] ⟨[(0, (.d (.str v0)))], ⟨m, []⟩ :: stk⟩ = (fun r0 => (some (.ret (.d (.bool r0)), stk) : Rk')) out := by
  exact o_text_Right_0 (h := LW) (hT := rfl) (he_e_int32 := fun _ => rfl) (hz_e_int32 := fun l => LW.allsz E_int32 1 (fun a => ⟨rfl, rfl⟩) l) (he_e_uint8 := fun _ => rfl) (hz_e_uint8 := fun l => LW.allsz E_uint8 1 (fun a => ⟨rfl, rfl⟩) l) (c_text_Bad := p_text_Bad) (h_text_Bad := s_text_Bad)   stk m v0 hp
noncomputable def p_text_Right : Str → Option (Bool) := fun v0 => p_text_Right_0 v0
theorem s_text_Right : ∀ {a0 : Str} {r0 : Bool}, p_text_Right a0 = some r0 → ∀ stk, (sysW table glob).pcall 17 [(.d (.str a0))] stk = some (.d (.bool r0)) := by
  intro _ _ hp stk
  exact pcall_of (T := table) (G := glob) (f := 17) rfl rfl (s_text_Right_0 stk _ _ hp)
noncomputable def p_cascadelaw01_awake_0  : Option (Bool) := b_cascadelaw01_awake_0 Prims.real p_text_Name p_text_Right p_text_Bad  
theorem s_cascadelaw01_awake_0 (stk : Stk) (m : Nat)  {out} (hp : p_cascadelaw01_awake_0  = some out) : atW table glob 14 true 0 [] ⟨[], ⟨m, []⟩ :: stk⟩ = (fun r0 => (some (.ret (.d (.bool r0)), stk) : Rk')) out := by
  exact o_cascadelaw01_awake_0 (h := LW) (hT := rfl) (he_e_int32 := fun _ => rfl) (hz_e_int32 := fun l => LW.allsz E_int32 1 (fun a => ⟨rfl, rfl⟩) l) (he_e_uint8 := fun _ => rfl) (hz_e_uint8 := fun l => LW.allsz E_uint8 1 (fun a => ⟨rfl, rfl⟩) l) (c_text_Name := p_text_Name) (c_text_Right := p_text_Right) (c_text_Bad := p_text_Bad) (h_text_Name := s_text_Name) (h_text_Right := s_text_Right) (h_text_Bad := s_text_Bad)   stk m  hp
noncomputable def p_cascadelaw01_awake : Option (Bool) := p_cascadelaw01_awake_0
theorem s_cascadelaw01_awake : ∀ {r0 : Bool}, p_cascadelaw01_awake  = some r0 → ∀ stk, (sysW table glob).pcall 14 [] stk = some (.d (.bool r0)) := by
  intro _ hp stk
  exact pcall_of (T := table) (G := glob) (f := 14) rfl rfl (s_cascadelaw01_awake_0 stk _  hp)
noncomputable def p_cascaderef01_Letter_0 (v0 : Int) : Option (Bool) := b_cascaderef01_Letter_0 Prims.real   v0
theorem s_cascaderef01_Letter_0 (stk : Stk) (m : Nat) (v0 : Int) {out} (hp : p_cascaderef01_Letter_0 v0 = some out) : atW table glob 35 true 0 [] ⟨[(0, (.d (.int .u8 v0)))], ⟨m, []⟩ :: stk⟩ = (fun r0 => (some (.ret (.d (.bool r0)), stk) : Rk')) out := by
  exact o_cascaderef01_Letter_0 (h := LW) (hT := rfl) (he_e_int32 := fun _ => rfl) (hz_e_int32 := fun l => LW.allsz E_int32 1 (fun a => ⟨rfl, rfl⟩) l) (he_e_uint8 := fun _ => rfl) (hz_e_uint8 := fun l => LW.allsz E_uint8 1 (fun a => ⟨rfl, rfl⟩) l)     stk m v0 hp
noncomputable def p_cascaderef01_Letter : Int → Option (Bool) := fun v0 => p_cascaderef01_Letter_0 v0
theorem s_cascaderef01_Letter : ∀ {a0 : Int} {r0 : Bool}, p_cascaderef01_Letter a0 = some r0 → ∀ stk, (sysW table glob).pcall 35 [(.d (.int .u8 a0))] stk = some (.d (.bool r0)) := by
  intro _ _ hp stk
  exact pcall_of (T := table) (G := glob) (f := 35) rfl rfl (s_cascaderef01_Letter_0 stk _ _ hp)
noncomputable def p_cascaderef01_Digit_0 (v0 : Int) : Option (Bool) := b_cascaderef01_Digit_0 Prims.real   v0
theorem s_cascaderef01_Digit_0 (stk : Stk) (m : Nat) (v0 : Int) {out} (hp : p_cascaderef01_Digit_0 v0 = some out) : atW table glob 36 true 0 [] ⟨[(0, (.d (.int .u8 v0)))], ⟨m, []⟩ :: stk⟩ = (fun r0 => (some (.ret (.d (.bool r0)), stk) : Rk')) out := by
  exact o_cascaderef01_Digit_0 (h := LW) (hT := rfl) (he_e_int32 := fun _ => rfl) (hz_e_int32 := fun l => LW.allsz E_int32 1 (fun a => ⟨rfl, rfl⟩) l) (he_e_uint8 := fun _ => rfl) (hz_e_uint8 := fun l => LW.allsz E_uint8 1 (fun a => ⟨rfl, rfl⟩) l)     stk m v0 hp
noncomputable def p_cascaderef01_Digit : Int → Option (Bool) := fun v0 => p_cascaderef01_Digit_0 v0
theorem s_cascaderef01_Digit : ∀ {a0 : Int} {r0 : Bool}, p_cascaderef01_Digit a0 = some r0 → ∀ stk, (sysW table glob).pcall 36 [(.d (.int .u8 a0))] stk = some (.d (.bool r0)) := by
  intro _ _ hp stk
  exact pcall_of (T := table) (G := glob) (f := 36) rfl rfl (s_cascaderef01_Digit_0 stk _ _ hp)
noncomputable def p_cascaderef01_Name_3 (v0 : Str) (v3 : Int) : Option ((Str × Int) ⊕ (Bool)) := b_cascaderef01_Name_3 Prims.real p_cascaderef01_Letter p_cascaderef01_Digit  v0 v3
theorem s_cascaderef01_Name_3 (stk : Stk) (m : Nat) (v0 : Str) (v3 : Int) {out} (hp : p_cascaderef01_Name_3 v0 v3 = some out) : atW table glob 16 true 3 [.lp ⟨1, [0, 3], []⟩, .blk 0, .sub ⟨4, [0], []⟩] ⟨[(0, (.d (.str v0))), (3, (.d (.int .i64 v3)))], ⟨m, []⟩ :: stk⟩ = (Sum.elim (fun (v0, v3) => atW table glob 16 true 1 [.lp ⟨1, [0, 3], []⟩, .blk 0, .sub ⟨4, [0], []⟩] ⟨[(0, (.d (.str v0))), (3, (.d (.int .i64 v3)))], ⟨m, []⟩ :: stk⟩) (fun r0 => (some (.ret (.d (.bool r0)), stk) : Rk'))) out := by
  exact o_cascaderef01_Name_3 (h := LW) (hT := rfl) (he_e_int32 := fun _ => rfl) (hz_e_int32 := fun l => LW.allsz E_int32 1 (fun a => ⟨rfl, rfl⟩) l) (he_e_uint8 := fun _ => rfl) (hz_e_uint8 := fun l => LW.allsz E_uint8 1 (fun a => ⟨rfl, rfl⟩) l) (c_cascaderef01_Letter := p_cascaderef01_Letter) (c_cascaderef01_Digit := p_cascaderef01_Digit) (h_cascaderef01_Letter := s_cascaderef01_Letter) (h_cascaderef01_Digit := s_cascaderef01_Digit)   stk m v0 v3 hp
noncomputable def p_cascaderef01_Name_1 (v0 : Str) (v3 : Int) : Option (Bool) := Prims.real.loop (fun (s : Str × Int) => match s with | (v0, v3) => b_cascaderef01_Name_1 Prims.real p_cascaderef01_Letter p_cascaderef01_Digit p_cascaderef01_Name_3 v0 v3) (v0, v3)
theorem u_cascaderef01_Name_1 (v0 : Str) (v3 : Int) : p_cascaderef01_Name_1 v0 v3 = match b_cascaderef01_Name_1 Prims.real p_cascaderef01_Letter p_cascaderef01_Digit p_cascaderef01_Name_3 v0 v3 with
    | some (.inl (v0', v3')) => p_cascaderef01_Name_1 v0' v3'
    | some (.inr r) => some r
    | none => none := by
  show Pr.loop _ _ = _
  rw [Pr.loop_eq]
  dsimp only
  generalize b_cascaderef01_Name_1 Prims.real p_cascaderef01_Letter p_cascaderef01_Digit p_cascaderef01_Name_3 v0 v3 = y
  cases y with
  | none => rfl
  | some y => cases y <;> rfl
theorem s_cascaderef01_Name_1 (stk : Stk) (m : Nat) (v0 : Str) (v3 : Int) {out} (hp : p_cascaderef01_Name_1 v0 v3 = some out) : atW table glob 16 true 1 [.lp ⟨1, [0, 3], []⟩, .blk 0, .sub ⟨4, [0], []⟩] ⟨[(0, (.d (.str v0))), (3, (.d (.int .i64 v3)))], ⟨m, []⟩ :: stk⟩ = (fun r0 => (some (.ret (.d (.bool r0)), stk) : Rk')) out := by
  refine LW.ind (fun (s : Str × Int) => match s with | (v0, v3) => b_cascaderef01_Name_1 Prims.real p_cascaderef01_Letter p_cascaderef01_Digit p_cascaderef01_Name_3 v0 v3) (fun (s : Str × Int) o => match s with | (v0, v3) => atW table glob 16 true 1 [.lp ⟨1, [0, 3], []⟩, .blk 0, .sub ⟨4, [0], []⟩] ⟨[(0, (.d (.str v0))), (3, (.d (.int .i64 v3)))], ⟨m, []⟩ :: stk⟩ = (fun r0 => (some (.ret (.d (.bool r0)), stk) : Rk')) o) (fun s r e => ?_) (fun s t r e ih => ?_) (v0, v3) out hp
  · obtain ⟨v0, v3⟩ := s
    exact o_cascaderef01_Name_1 (h := LW) (hT := rfl) (he_e_int32 := fun _ => rfl) (hz_e_int32 := fun l => LW.allsz E_int32 1 (fun a => ⟨rfl, rfl⟩) l) (he_e_uint8 := fun _ => rfl) (hz_e_uint8 := fun l => LW.allsz E_uint8 1 (fun a => ⟨rfl, rfl⟩) l) (c_cascaderef01_Letter := p_cascaderef01_Letter) (c_cascaderef01_Digit := p_cascaderef01_Digit) (h_cascaderef01_Letter := s_cascaderef01_Letter) (h_cascaderef01_Digit := s_cascaderef01_Digit) (l_3 := p_cascaderef01_Name_3) (h_l_3 := fun hp => s_cascaderef01_Name_3 stk m _ _ hp) stk m v0 v3 e
  · obtain ⟨v0, v3⟩ := s; obtain ⟨v0', v3'⟩ := t
    exact (o_cascaderef01_Name_1 (h := LW) (hT := rfl) (he_e_int32 := fun _ => rfl) (hz_e_int32 := fun l => LW.allsz E_int32 1 (fun a => ⟨rfl, rfl⟩) l) (he_e_uint8 := fun _ => rfl) (hz_e_uint8 := fun l => LW.allsz E_uint8 1 (fun a => ⟨rfl, rfl⟩) l) (c_cascaderef01_Letter := p_cascaderef01_Letter) (c_cascaderef01_Digit := p_cascaderef01_Digit) (h_cascaderef01_Letter := s_cascaderef01_Letter) (h_cascaderef01_Digit := s_cascaderef01_Digit) (l_3 := p_cascaderef01_Name_3) (h_l_3 := fun hp => s_cascaderef01_Name_3 stk m _ _ hp) stk m v0 v3 e).trans ih
noncomputable def p_cascaderef01_Name_0 (v0 : Str) : Option (Bool) := b_cascaderef01_Name_0 Prims.real p_cascaderef01_Letter p_cascaderef01_Digit p_cascaderef01_Name_1 v0
theorem s_cascaderef01_Name_0 (stk : Stk) (m : Nat) (v0 : Str) {out} (hp : p_cascaderef01_Name_0 v0 = some out) : atW table glob 16 true 0 [] ⟨[(0, (.d (.str v0)))], ⟨m, []⟩ :: stk⟩ = (fun r0 => (some (.ret (.d (.bool r0)), stk) : Rk')) out := by
  exact o_cascaderef01_Name_0 (h := LW) (hT := rfl) (he_e_int32 := fun _ => rfl) (hz_e_int32 := fun l => LW.allsz E_int32 1 (fun a => ⟨rfl, rfl⟩) l) (he_e_uint8 := fun _ => rfl) (hz_e_uint8 := fun l => LW.allsz E_uint8 1 (fun a => ⟨rfl, rfl⟩) l) (c_cascaderef01_Letter := p_cascaderef01_Letter) (c_cascaderef01_Digit := p_cascaderef01_Digit) (h_cascaderef01_Letter := s_cascaderef01_Letter) (h_cascaderef01_Digit := s_cascaderef01_Digit) (l_1 := p_cascaderef01_Name_1) (h_l_1 := fun hp => s_cascaderef01_Name_1 stk m _ _ hp) stk m v0 hp
noncomputable def p_cascaderef01_Name : Str → Option (Bool) := fun v0 => p_cascaderef01_Name_0 v0
theorem s_cascaderef01_Name : ∀ {a0 : Str} {r0 : Bool}, p_cascaderef01_Name a0 = some r0 → ∀ stk, (sysW table glob).pcall 16 [(.d (.str a0))] stk = some (.d (.bool r0)) := by
  intro _ _ hp stk
  exact pcall_of (T := table) (G := glob) (f := 16) rfl rfl (s_cascaderef01_Name_0 stk _ _ hp)
noncomputable def p_cascadelaw01_TextNames_0 (v0 : Str) : Option (Bool) := b_cascadelaw01_TextNames_0 Prims.real p_cascadelaw01_awake p_text_Name p_cascaderef01_Name p_text_Right  v0
theorem s_cascadelaw01_TextNames_0 (stk : Stk) (m : Nat) (v0 : Str) {out} (hp : p_cascadelaw01_TextNames_0 v0 = some out) : atW table glob 3 true 0 [] ⟨[(0, (.d (.str v0)))], ⟨m, []⟩ :: stk⟩ = (fun r0 => (some (.ret (.d (.bool r0)), stk) : Rk')) out := by
  exact o_cascadelaw01_TextNames_0 (h := LW) (hT := rfl) (he_e_int32 := fun _ => rfl) (hz_e_int32 := fun l => LW.allsz E_int32 1 (fun a => ⟨rfl, rfl⟩) l) (he_e_uint8 := fun _ => rfl) (hz_e_uint8 := fun l => LW.allsz E_uint8 1 (fun a => ⟨rfl, rfl⟩) l) (c_cascadelaw01_awake := p_cascadelaw01_awake) (c_text_Name := p_text_Name) (c_cascaderef01_Name := p_cascaderef01_Name) (c_text_Right := p_text_Right) (h_cascadelaw01_awake := s_cascadelaw01_awake) (h_text_Name := s_text_Name) (h_cascaderef01_Name := s_cascaderef01_Name) (h_text_Right := s_text_Right)   stk m v0 hp
noncomputable def p_cascadelaw01_TextNames : Str → Option (Bool) := fun v0 => p_cascadelaw01_TextNames_0 v0
theorem s_cascadelaw01_TextNames : ∀ {a0 : Str} {r0 : Bool}, p_cascadelaw01_TextNames a0 = some r0 → ∀ stk, (sysW table glob).pcall 3 [(.d (.str a0))] stk = some (.d (.bool r0)) := by
  intro _ _ hp stk
  exact pcall_of (T := table) (G := glob) (f := 3) rfl rfl (s_cascadelaw01_TextNames_0 stk _ _ hp)
noncomputable def p_cascaderef01_Size_11 (v7 : Int) (v8 : Int) : Option (Int × Int) := b_cascaderef01_Size_11 Prims.real   v7 v8
theorem s_cascaderef01_Size_11 (stk : Stk) (m : Nat) (v7 : Int) (v8 : Int) {out} (hp : p_cascaderef01_Size_11 v7 v8 = some out) : atW table glob 37 true 11 [] ⟨[(7, (.d (.int .i64 v7))), (8, (.d (.int .i64 v8)))], ⟨m, []⟩ :: stk⟩ = (fun (r0, r1) => (some (.ret (.d (.tup [(.int .i64 r0), (.int .i32 r1)])), stk) : Rk')) out := by
  exact o_cascaderef01_Size_11 (h := LW) (hT := rfl) (he_e_int32 := fun _ => rfl) (hz_e_int32 := fun l => LW.allsz E_int32 1 (fun a => ⟨rfl, rfl⟩) l) (he_e_uint8 := fun _ => rfl) (hz_e_uint8 := fun l => LW.allsz E_uint8 1 (fun a => ⟨rfl, rfl⟩) l)     stk m v7 v8 hp
noncomputable def p_cascaderef01_Size_6 (v0 : Str) (v1 : Int) (v7 : Int) (v8 : Int) (v9 : Int) (v10 : Int) : Option (Int × Int) := Prims.real.loop (fun (s : Str × Int × Int × Int × Int × Int) => match s with | (v0, v1, v7, v8, v9, v10) => b_cascaderef01_Size_6 Prims.real  p_cascaderef01_Size_11 v0 v1 v7 v8 v9 v10) (v0, v1, v7, v8, v9, v10)
theorem u_cascaderef01_Size_6 (v0 : Str) (v1 : Int) (v7 : Int) (v8 : Int) (v9 : Int) (v10 : Int) : p_cascaderef01_Size_6 v0 v1 v7 v8 v9 v10 = match b_cascaderef01_Size_6 Prims.real  p_cascaderef01_Size_11 v0 v1 v7 v8 v9 v10 with
    | some (.inl (v0', v1', v7', v8', v9', v10')) => p_cascaderef01_Size_6 v0' v1' v7' v8' v9' v10'
    | some (.inr r) => some r
    | none => none := by
  show Pr.loop _ _ = _
  rw [Pr.loop_eq]
  dsimp only
  generalize b_cascaderef01_Size_6 Prims.real  p_cascaderef01_Size_11 v0 v1 v7 v8 v9 v10 = y
  cases y with
  | none => rfl
  | some y => cases y <;> rfl
theorem s_cascaderef01_Size_6 (stk : Stk) (m : Nat) (v0 : Str) (v1 : Int) (v7 : Int) (v8 : Int) (v9 : Int) (v10 : Int) {out} (hp : p_cascaderef01_Size_6 v0 v1 v7 v8 v9 v10 = some out) : atW table glob 37 true 6 [.lp ⟨6, [0, 1, 7, 8, 9, 10], []⟩, .blk 0, .sub ⟨10, [7, 8, 9], []⟩] ⟨[(0, (.d (.str v0))), (1, (.d (.int .i64 v1))), (7, (.d (.int .i64 v7))), (8, (.d (.int .i64 v8))), (9, (.d (.int .i64 v9))), (10, (.d (.int .i64 v10)))], ⟨m, []⟩ :: stk⟩ = (fun (r0, r1) => (some (.ret (.d (.tup [(.int .i64 r0), (.int .i32 r1)])), stk) : Rk')) out := by
  refine LW.ind (fun (s : Str × Int × Int × Int × Int × Int) => match s with | (v0, v1, v7, v8, v9, v10) => b_cascaderef01_Size_6 Prims.real  p_cascaderef01_Size_11 v0 v1 v7 v8 v9 v10) (fun (s : Str × Int × Int × Int × Int × Int) o => match s with | (v0, v1, v7, v8, v9, v10) => atW table glob 37 true 6 [.lp ⟨6, [0, 1, 7, 8, 9, 10], []⟩, .blk 0, .sub ⟨10, [7, 8, 9], []⟩] ⟨[(0, (.d (.str v0))), (1, (.d (.int .i64 v1))), (7, (.d (.int .i64 v7))), (8, (.d (.int .i64 v8))), (9, (.d (.int .i64 v9))), (10, (.d (.int .i64 v10)))], ⟨m, []⟩ :: stk⟩ = (fun (r0, r1) => (some (.ret (.d (.tup [(.int .i64 r0), (.int .i32 r1)])), stk) : Rk')) o) (fun s r e => ?_) (fun s t r e ih => ?_) (v0, v1, v7, v8, v9, v10) out hp
  · obtain ⟨v0, v1, v7, v8, v9, v10⟩ := s
    exact o_cascaderef01_Size_6 (h := LW) (hT := rfl) (he_e_int32 := fun _ => rfl) (hz_e_int32 := fun l => LW.allsz E_int32 1 (fun a => ⟨rfl, rfl⟩) l) (he_e_uint8 := fun _ => rfl) (hz_e_uint8 := fun l => LW.allsz E_uint8 1 (fun a => ⟨rfl, rfl⟩) l)   (l_11 := p_cascaderef01_Size_11) (h_l_11 := fun hp => s_cascaderef01_Size_11 stk m _ _ hp) stk m v0 v1 v7 v8 v9 v10 e
  · obtain ⟨v0, v1, v7, v8, v9, v10⟩ := s; obtain ⟨v0', v1', v7', v8', v9', v10'⟩ := t
    exact (o_cascaderef01_Size_6 (h := LW) (hT := rfl) (he_e_int32 := fun _ => rfl) (hz_e_int32 := fun l => LW.allsz E_int32 1 (fun a => ⟨rfl, rfl⟩) l) (he_e_uint8 := fun _ => rfl) (hz_e_uint8 := fun l => LW.allsz E_uint8 1 (fun a => ⟨rfl, rfl⟩) l)   (l_11 := p_cascaderef01_Size_11) (h_l_11 := fun hp => s_cascaderef01_Size_11 stk m _ _ hp) stk m v0 v1 v7 v8 v9 v10 e).trans ih
noncomputable def p_cascaderef01_Size_4 (v0 : Str) (v1 : Int) (v7 : Int) (v8 : Int) (v9 : Int) : Option (Int × Int) := b_cascaderef01_Size_4 Prims.real  p_cascaderef01_Size_6 v0 v1 v7 v8 v9
theorem s_cascaderef01_Size_4 (stk : Stk) (m : Nat) (v0 : Str) (v1 : Int) (v7 : Int) (v8 : Int) (v9 : Int) {out} (hp : p_cascaderef01_Size_4 v0 v1 v7 v8 v9 = some out) : atW table glob 37 true 4 [] ⟨[(0, (.d (.str v0))), (1, (.d (.int .i64 v1))), (7, (.d (.int .i64 v7))), (8, (.d (.int .i64 v8))), (9, (.d (.int .i64 v9)))], ⟨m, []⟩ :: stk⟩ = (fun (r0, r1) => (some (.ret (.d (.tup [(.int .i64 r0), (.int .i32 r1)])), stk) : Rk')) out := by
  exact o_cascaderef01_Size_4 (h := LW) (hT := rfl) (he_e_int32 := fun _ => rfl) (hz_e_int32 := fun l => LW.allsz E_int32 1 (fun a => ⟨rfl, rfl⟩) l) (he_e_uint8 := fun _ => rfl) (hz_e_uint8 := fun l => LW.allsz E_uint8 1 (fun a => ⟨rfl, rfl⟩) l)   (l_6 := p_cascaderef01_Size_6) (h_l_6 := fun hp => s_cascaderef01_Size_6 stk m _ _ _ _ _ _ hp) stk m v0 v1 v7 v8 v9 hp
noncomputable def p_cascaderef01_Size_3 (v0 : Str) (v1 : Int) (v6 : Int) (v7 : Int) (v8 : Int) (v9 : Int) : Option (Int × Int) := b_cascaderef01_Size_3 Prims.real  p_cascaderef01_Size_4 v0 v1 v6 v7 v8 v9
theorem s_cascaderef01_Size_3 (stk : Stk) (m : Nat) (v0 : Str) (v1 : Int) (v6 : Int) (v7 : Int) (v8 : Int) (v9 : Int) {out} (hp : p_cascaderef01_Size_3 v0 v1 v6 v7 v8 v9 = some out) : atW table glob 37 true 3 [] ⟨[(0, (.d (.str v0))), (1, (.d (.int .i64 v1))), (6, (.d (.int .i64 v6))), (7, (.d (.int .i64 v7))), (8, (.d (.int .i64 v8))), (9, (.d (.int .i64 v9)))], ⟨m, []⟩ :: stk⟩ = (fun (r0, r1) => (some (.ret (.d (.tup [(.int .i64 r0), (.int .i32 r1)])), stk) : Rk')) out := by
  exact o_cascaderef01_Size_3 (h := LW) (hT := rfl) (he_e_int32 := fun _ => rfl) (hz_e_int32 := fun l => LW.allsz E_int32 1 (fun a => ⟨rfl, rfl⟩) l) (he_e_uint8 := fun _ => rfl) (hz_e_uint8 := fun l => LW.allsz E_uint8 1 (fun a => ⟨rfl, rfl⟩) l)   (l_4 := p_cascaderef01_Size_4) (h_l_4 := fun hp => s_cascaderef01_Size_4 stk m _ _ _ _ _ hp) stk m v0 v1 v6 v7 v8 v9 hp
noncomputable def p_cascaderef01_Size_2 (v0 : Str) (v1 : Int) (v6 : Int) (v7 : Int) (v8 : Int) (v9 : Int) : Option (Int × Int) := b_cascaderef01_Size_2 Prims.real  p_cascaderef01_Size_3 v0 v1 v6 v7 v8 v9
theorem s_cascaderef01_Size_2 (stk : Stk) (m : Nat) (v0 : Str) (v1 : Int) (v6 : Int) (v7 : Int) (v8 : Int) (v9 : Int) {out} (hp : p_cascaderef01_Size_2 v0 v1 v6 v7 v8 v9 = some out) : atW table glob 37 true 2 [] ⟨[(0, (.d (.str v0))), (1, (.d (.int .i64 v1))), (6, (.d (.int .i64 v6))), (7, (.d (.int .i64 v7))), (8, (.d (.int .i64 v8))), (9, (.d (.int .i64 v9)))], ⟨m, []⟩ :: stk⟩ = (fun (r0, r1) => (some (.ret (.d (.tup [(.int .i64 r0), (.int .i32 r1)])), stk) : Rk')) out := by
  exact o_cascaderef01_Size_2 (h := LW) (hT := rfl) (he_e_int32 := fun _ => rfl) (hz_e_int32 := fun l => LW.allsz E_int32 1 (fun a => ⟨rfl, rfl⟩) l) (he_e_uint8 := fun _ => rfl) (hz_e_uint8 := fun l => LW.allsz E_uint8 1 (fun a => ⟨rfl, rfl⟩) l)   (l_3 := p_cascaderef01_Size_3) (h_l_3 := fun hp => s_cascaderef01_Size_3 stk m _ _ _ _ _ _ hp) stk m v0 v1 v6 v7 v8 v9 hp
noncomputable def p_cascaderef01_Size_0 (v0 : Str) (v1 : Int) : Option (Int × Int) := b_cascaderef01_Size_0 Prims.real  p_cascaderef01_Size_2 v0 v1
theorem s_cascaderef01_Size_0 (stk : Stk) (m : Nat) (v0 : Str) (v1 : Int) {out} (hp : p_cascaderef01_Size_0 v0 v1 = some out) : atW table glob 37 true 0 [] ⟨[(0, (.d (.str v0))), (1, (.d (.int .i64 v1)))], ⟨m, []⟩ :: stk⟩ = (fun (r0, r1) => (some (.ret (.d (.tup [(.int .i64 r0), (.int .i32 r1)])), stk) : Rk')) out := by
  exact o_cascaderef01_Size_0 (h := LW) (hT := rfl) (he_e_int32 := fun _ => rfl) (hz_e_int32 := fun l => LW.allsz E_int32 1 (fun a => ⟨rfl, rfl⟩) l) (he_e_uint8 := fun _ => rfl) (hz_e_uint8 := fun l => LW.allsz E_uint8 1 (fun a => ⟨rfl, rfl⟩) l)   (l_2 := p_cascaderef01_Size_2) (h_l_2 := fun hp => s_cascaderef01_Size_2 stk m _ _ _ _ _ _ hp) stk m v0 v1 hp
noncomputable def p_cascaderef01_Size : Str → Int → Option (Int × Int) := fun v0 v1 => p_cascaderef01_Size_0 v0 v1
theorem s_cascaderef01_Size : ∀ {a0 : Str} {a1 : Int} {r0 : Int} {r1 : Int}, p_cascaderef01_Size a0 a1 = some (r0, r1) → ∀ stk, (sysW table glob).pcall 37 [(.d (.str a0)), (.d (.int .i64 a1))] stk = some (.d (.tup [(.int .i64 r0), (.int .i32 r1)])) := by
  intro _ _ _ _ hp stk
  exact pcall_of (T := table) (G := glob) (f := 37) rfl rfl (s_cascaderef01_Size_0 stk _ _ _ hp)
noncomputable def p_cascaderef01_Bad_1 (v0 : Str) (v3 : Int) : Option (Int) := Prims.real.loop (fun (s : Str × Int) => match s with | (v0, v3) => b_cascaderef01_Bad_1 Prims.real p_cascaderef01_Size  v0 v3) (v0, v3)
theorem u_cascaderef01_Bad_1 (v0 : Str) (v3 : Int) : p_cascaderef01_Bad_1 v0 v3 = match b_cascaderef01_Bad_1 Prims.real p_cascaderef01_Size  v0 v3 with
    | some (.inl (v0', v3')) => p_cascaderef01_Bad_1 v0' v3'
    | some (.inr r) => some r
    | none => none := by
  show Pr.loop _ _ = _
  rw [Pr.loop_eq]
  dsimp only
  generalize b_cascaderef01_Bad_1 Prims.real p_cascaderef01_Size  v0 v3 = y
  cases y with
  | none => rfl
  | some y => cases y <;> rfl
theorem s_cascaderef01_Bad_1 (stk : Stk) (m : Nat) (v0 : Str) (v3 : Int) {out} (hp : p_cascaderef01_Bad_1 v0 v3 = some out) : atW table glob 18 true 1 [.lp ⟨1, [0, 3], []⟩, .blk 0, .sub ⟨4, [], []⟩] ⟨[(0, (.d (.str v0))), (3, (.d (.int .i64 v3)))], ⟨m, []⟩ :: stk⟩ = (fun r0 => (some (.ret (.d (.int .i64 r0)), stk) : Rk')) out := by
  refine LW.ind (fun (s : Str × Int) => match s with | (v0, v3) => b_cascaderef01_Bad_1 Prims.real p_cascaderef01_Size  v0 v3) (fun (s : Str × Int) o => match s with | (v0, v3) => atW table glob 18 true 1 [.lp ⟨1, [0, 3], []⟩, .blk 0, .sub ⟨4, [], []⟩] ⟨[(0, (.d (.str v0))), (3, (.d (.int .i64 v3)))], ⟨m, []⟩ :: stk⟩ = (fun r0 => (some (.ret (.d (.int .i64 r0)), stk) : Rk')) o) (fun s r e => ?_) (fun s t r e ih => ?_) (v0, v3) out hp
  · obtain ⟨v0, v3⟩ := s
    exact o_cascaderef01_Bad_1 (h := LW) (hT := rfl) (he_e_int32 := fun _ => rfl) (hz_e_int32 := fun l => LW.allsz E_int32 1 (fun a => ⟨rfl, rfl⟩) l) (he_e_uint8 := fun _ => rfl) (hz_e_uint8 := fun l => LW.allsz E_uint8 1 (fun a => ⟨rfl, rfl⟩) l) (c_cascaderef01_Size := p_cascaderef01_Size) (h_cascaderef01_Size := s_cascaderef01_Size)   stk m v0 v3 e
  · obtain ⟨v0, v3⟩ := s; obtain ⟨v0', v3'⟩ := t
    exact (o_cascaderef01_Bad_1 (h := LW) (hT := rfl) (he_e_int32 := fun _ => rfl) (hz_e_int32 := fun l => LW.allsz E_int32 1 (fun a => ⟨rfl, rfl⟩) l) (he_e_uint8 := fun _ => rfl) (hz_e_uint8 := fun l => LW.allsz E_uint8 1 (fun a => ⟨rfl, rfl⟩) l) (c_cascaderef01_Size := p_cascaderef01_Size) (h_cascaderef01_Size := s_cascaderef01_Size)   stk m v0 v3 e).trans ih
noncomputable def p_cascaderef01_Bad_0 (v0 : Str) : Option (Int) := b_cascaderef01_Bad_0 Prims.real p_cascaderef01_Size p_cascaderef01_Bad_1 v0
theorem s_cascaderef01_Bad_0 (stk : Stk) (m : Nat) (v0 : Str) {out} (hp : p_cascaderef01_Bad_0 v0 = some out) : atW table glob 18 true 0 [] ⟨[(0, (.d (.str v0)))], ⟨m, []⟩ :: stk⟩ = (fun r0 => (some (.ret (.d (.int .i64 r0)), stk) : Rk')) out := by
  exact o_cascaderef01_Bad_0 (h := LW) (hT := rfl) (he_e_int32 := fun _ => rfl) (hz_e_int32 := fun l => LW.allsz E_int32 1 (fun a => ⟨rfl, rfl⟩) l) (he_e_uint8 := fun _ => rfl) (hz_e_uint8 := fun l => LW.allsz E_uint8 1 (fun a => ⟨rfl, rfl⟩) l) (c_cascaderef01_Size := p_cascaderef01_Size) (h_cascaderef01_Size := s_cascaderef01_Size) (l_1 := p_cascaderef01_Bad_1) (h_l_1 := fun hp => s_cascaderef01_Bad_1 stk m _ _ hp) stk m v0 hp
noncomputable def p_cascaderef01_Bad : Str → Option (Int) := fun v0 => p_cascaderef01_Bad_0 v0
theorem s_cascaderef01_Bad : ∀ {a0 : Str} {r0 : Int}, p_cascaderef01_Bad a0 = some r0 → ∀ stk, (sysW table glob).pcall 18 [(.d (.str a0))] stk = some (.d (.int .i64 r0)) := by
  intro _ _ hp stk
  exact pcall_of (T := table) (G := glob) (f := 18) rfl rfl (s_cascaderef01_Bad_0 stk _ _ hp)
noncomputable def p_cascadelaw01_same_2 (v0 : (List Int)) (v1 : (List Int)) (v5 : Int) : Option (Bool) := Prims.real.loop (fun (s : (List Int) × (List Int) × Int) => match s with | (v0, v1, v5) => b_cascadelaw01_same_2 Prims.real   v0 v1 v5) (v0, v1, v5)
theorem u_cascadelaw01_same_2 (v0 : (List Int)) (v1 : (List Int)) (v5 : Int) : p_cascadelaw01_same_2 v0 v1 v5 = match b_cascadelaw01_same_2 Prims.real   v0 v1 v5 with
    | some (.inl (v0', v1', v5')) => p_cascadelaw01_same_2 v0' v1' v5'
    | some (.inr r) => some r
    | none => none := by
  show Pr.loop _ _ = _
  rw [Pr.loop_eq]
  dsimp only
  generalize b_cascadelaw01_same_2 Prims.real   v0 v1 v5 = y
  cases y with
  | none => rfl
  | some y => cases y <;> rfl
theorem s_cascadelaw01_same_2 (stk : Stk) (m : Nat) (v0 : (List Int)) (v1 : (List Int)) (v5 : Int) {out} (hp : p_cascadelaw01_same_2 v0 v1 v5 = some out) : atW table glob 20 true 2 [.lp ⟨2, [0, 1, 5], []⟩, .blk 0, .sub ⟨5, [], []⟩] ⟨[(0, (.d (.sl (List.map E_int32 v0)))), (1, (.d (.sl (List.map E_int32 v1)))), (5, (.d (.int .i64 v5)))], ⟨m, []⟩ :: stk⟩ = (fun r0 => (some (.ret (.d (.bool r0)), stk) : Rk')) out := by
  refine LW.ind (fun (s : (List Int) × (List Int) × Int) => match s with | (v0, v1, v5) => b_cascadelaw01_same_2 Prims.real   v0 v1 v5) (fun (s : (List Int) × (List Int) × Int) o => match s with | (v0, v1, v5) => atW table glob 20 true 2 [.lp ⟨2, [0, 1, 5], []⟩, .blk 0, .sub ⟨5, [], []⟩] ⟨[(0, (.d (.sl (List.map E_int32 v0)))), (1, (.d (.sl (List.map E_int32 v1)))), (5, (.d (.int .i64 v5)))], ⟨m, []⟩ :: stk⟩ = (fun r0 => (some (.ret (.d (.bool r0)), stk) : Rk')) o) (fun s r e => ?_) (fun s t r e ih => ?_) (v0, v1, v5) out hp
  · obtain ⟨v0, v1, v5⟩ := s
    exact o_cascadelaw01_same_2 (h := LW) (hT := rfl) (he_e_int32 := fun _ => rfl) (hz_e_int32 := fun l => LW.allsz E_int32 1 (fun a => ⟨rfl, rfl⟩) l) (he_e_uint8 := fun _ => rfl) (hz_e_uint8 := fun l => LW.allsz E_uint8 1 (fun a => ⟨rfl, rfl⟩) l)     stk m v0 v1 v5 e
  · obtain ⟨v0, v1, v5⟩ := s; obtain ⟨v0', v1', v5'⟩ := t
    exact (o_cascadelaw01_same_2 (h := LW) (hT := rfl) (he_e_int32 := fun _ => rfl) (hz_e_int32 := fun l => LW.allsz E_int32 1 (fun a => ⟨rfl, rfl⟩) l) (he_e_uint8 := fun _ => rfl) (hz_e_uint8 := fun l => LW.allsz E_uint8 1 (fun a => ⟨rfl, rfl⟩) l)     stk m v0 v1 v5 e).trans ih
noncomputable def p_cascadelaw01_same_0 (v0 : (List Int)) (v1 : (List Int)) : Option (Bool) := b_cascadelaw01_same_0 Prims.real  p_cascadelaw01_same_2 v0 v1
theorem s_cascadelaw01_same_0 (stk : Stk) (m : Nat) (v0 : (List Int)) (v1 : (List Int)) {out} (hp : p_cascadelaw01_same_0 v0 v1 = some out) : atW table glob 20 true 0 [] ⟨[(0, (.d (.sl (List.map E_int32 v0)))), (1, (.d (.sl (List.map E_int32 v1))))], ⟨m, []⟩ :: stk⟩ = (fun r0 => (some (.ret (.d (.bool r0)), stk) : Rk')) out := by
  exact o_cascadelaw01_same_0 (h := LW) (hT := rfl) (he_e_int32 := fun _ => rfl) (hz_e_int32 := fun l => LW.allsz E_int32 1 (fun a => ⟨rfl, rfl⟩) l) (he_e_uint8 := fun _ => rfl) (hz_e_uint8 := fun l => LW.allsz E_uint8 1 (fun a => ⟨rfl, rfl⟩) l)   (l_2 := p_cascadelaw01_same_2) (h_l_2 := fun hp => s_cascadelaw01_same_2 stk m _ _ _ hp) stk m v0 v1 hp
noncomputable def p_cascadelaw01_same : (List Int) → (List Int) → Option (Bool) := fun v0 v1 => p_cascadelaw01_same_0 v0 v1
theorem s_cascadelaw01_same : ∀ {a0 : (List Int)} {a1 : (List Int)} {r0 : Bool}, p_cascadelaw01_same a0 a1 = some r0 → ∀ stk, (sysW table glob).pcall 20 [(.d (.sl (List.map E_int32 a0))), (.d (.sl (List.map E_int32 a1)))] stk = some (.d (.bool r0)) := by
  intro _ _ _ hp stk
  exact pcall_of (T := table) (G := glob) (f := 20) rfl rfl (s_cascadelaw01_same_0 stk _ _ _ hp)
noncomputable def p_text_Runes_2 (o3_g : Nat) (o3 : (List Int)) (o10_s : Str) (o10_p : Nat) : Option ((List Int)) := Prims.real.loop (fun (s : Nat × (List Int) × Str × Nat) => match s with | (o3_g, o3, o10_s, o10_p) => b_text_Runes_2 Prims.real p_text_Right  o3_g o3 o10_s o10_p) (o3_g, o3, o10_s, o10_p)
theorem u_text_Runes_2 (o3_g : Nat) (o3 : (List Int)) (o10_s : Str) (o10_p : Nat) : p_text_Runes_2 o3_g o3 o10_s o10_p = match b_text_Runes_2 Prims.real p_text_Right  o3_g o3 o10_s o10_p with
    | some (.inl (o3_g', o3', o10_s', o10_p')) => p_text_Runes_2 o3_g' o3' o10_s' o10_p'
    | some (.inr r) => some r
    | none => none := by
  show Pr.loop _ _ = _
  rw [Pr.loop_eq]
  dsimp only
  generalize b_text_Runes_2 Prims.real p_text_Right  o3_g o3 o10_s o10_p = y
  cases y with
  | none => rfl
  | some y => cases y <;> rfl
theorem s_text_Runes_2 (stk : Stk) (m : Nat) (o3_g : Nat) (o3 : (List Int)) (o10_s : Str) (o10_p : Nat) {out} (hp : p_text_Runes_2 o3_g o3 o10_s o10_p = some out) : atW table glob 21 true 2 [.lp ⟨2, [3, 10], [[3], [10]]⟩, .blk 0, .sub ⟨4, [3], [[3]]⟩] ⟨[(3, (.msl ⟨m, [3]⟩ o3_g 0 (List.length (List.map E_int32 o3)))), (10, (.ref ⟨m, [10]⟩ 0))], ⟨m, [([3], (.arr o3_g 1 (List.map E_int32 o3))), ([10], (.siter o10_s o10_p))]⟩ :: stk⟩ = (fun r0 => (some (.ret (.d (.sl (List.map E_int32 r0))), stk) : Rk')) out := by
  refine LW.ind (fun (s : Nat × (List Int) × Str × Nat) => match s with | (o3_g, o3, o10_s, o10_p) => b_text_Runes_2 Prims.real p_text_Right  o3_g o3 o10_s o10_p) (fun (s : Nat × (List Int) × Str × Nat) o => match s with | (o3_g, o3, o10_s, o10_p) => atW table glob 21 true 2 [.lp ⟨2, [3, 10], [[3], [10]]⟩, .blk 0, .sub ⟨4, [3], [[3]]⟩] ⟨[(3, (.msl ⟨m, [3]⟩ o3_g 0 (List.length (List.map E_int32 o3)))), (10, (.ref ⟨m, [10]⟩ 0))], ⟨m, [([3], (.arr o3_g 1 (List.map E_int32 o3))), ([10], (.siter o10_s o10_p))]⟩ :: stk⟩ = (fun r0 => (some (.ret (.d (.sl (List.map E_int32 r0))), stk) : Rk')) o) (fun s r e => ?_) (fun s t r e ih => ?_) (o3_g, o3, o10_s, o10_p) out hp
  · obtain ⟨o3_g, o3, o10_s, o10_p⟩ := s
    exact o_text_Runes_2 (h := LW) (hT := rfl) (he_e_int32 := fun _ => rfl) (hz_e_int32 := fun l => LW.allsz E_int32 1 (fun a => ⟨rfl, rfl⟩) l) (he_e_uint8 := fun _ => rfl) (hz_e_uint8 := fun l => LW.allsz E_uint8 1 (fun a => ⟨rfl, rfl⟩) l) (c_text_Right := p_text_Right) (h_text_Right := s_text_Right)   stk m o3_g o3 o10_s o10_p e
  · obtain ⟨o3_g, o3, o10_s, o10_p⟩ := s; obtain ⟨o3_g', o3', o10_s', o10_p'⟩ := t
    exact (o_text_Runes_2 (h := LW) (hT := rfl) (he_e_int32 := fun _ => rfl) (hz_e_int32 := fun l => LW.allsz E_int32 1 (fun a => ⟨rfl, rfl⟩) l) (he_e_uint8 := fun _ => rfl) (hz_e_uint8 := fun l => LW.allsz E_uint8 1 (fun a => ⟨rfl, rfl⟩) l) (c_text_Right := p_text_Right) (h_text_Right := s_text_Right)   stk m o3_g o3 o10_s o10_p e).trans ih
noncomputable def p_text_Runes_0 (v0 : Str) : Option ((List Int)) := b_text_Runes_0 Prims.real p_text_Right p_text_Runes_2 v0
theorem s_text_Runes_0 (stk : Stk) (m : Nat) (v0 : Str) {out} (hp : p_text_Runes_0 v0 = some out) : atW table glob 21 true 0 [] ⟨[(0, (.d (.str v0)))], ⟨m, []⟩ :: stk⟩ = (fun r0 => (some (.ret (.d (.sl (List.map E_int32 r0))), stk) : Rk')) out := by
  exact o_text_Runes_0 (h := LW) (hT := rfl) (he_e_int32 := fun _ => rfl) (hz_e_int32 := fun l => LW.allsz E_int32 1 (fun a => ⟨rfl, rfl⟩) l) (he_e_uint8 := fun _ => rfl) (hz_e_uint8 := fun l => LW.allsz E_uint8 1 (fun a => ⟨rfl, rfl⟩) l) (c_text_Right := p_text_Right) (h_text_Right := s_text_Right) (l_2 := p_text_Runes_2) (h_l_2 := fun hp => s_text_Runes_2 stk m _ _ _ _ hp) stk m v0 hp
noncomputable def p_text_Runes : Str → Option ((List Int)) := fun v0 => p_text_Runes_0 v0
theorem s_text_Runes : ∀ {a0 : Str} {r0 : (List Int)}, p_text_Runes a0 = some r0 → ∀ stk, (sysW table glob).pcall 21 [(.d (.str a0))] stk = some (.d (.sl (List.map E_int32 r0))) := by
  intro _ _ hp stk
  exact pcall_of (T := table) (G := glob) (f := 21) rfl rfl (s_text_Runes_0 stk _ _ hp)
noncomputable def p_cascaderef01_Right_0 (v0 : Str) : Option (Bool) := b_cascaderef01_Right_0 Prims.real p_cascaderef01_Bad  v0
theorem s_cascaderef01_Right_0 (stk : Stk) (m : Nat) (v0 : Str) {out} (hp : p_cascaderef01_Right_0 v0 = some out) : atW table glob 30 true 0 [] ⟨[(0, (.d (.str v0)))], ⟨m, []⟩ :: stk⟩ = (fun r0 => (some (.ret (.d (.bool r0)), stk) : Rk')) out := by
  exact o_cascaderef01_Right_0 (h := LW) (hT := rfl) (he_e_int32 := fun _ => rfl) (hz_e_int32 := fun l => LW.allsz E_int32 1 (fun a => ⟨rfl, rfl⟩) l) (he_e_uint8 := fun _ => rfl) (hz_e_uint8 := fun l => LW.allsz E_uint8 1 (fun a => ⟨rfl, rfl⟩) l) (c_cascaderef01_Bad := p_cascaderef01_Bad) (h_cascaderef01_Bad := s_cascaderef01_Bad)   stk m v0 hp
noncomputable def p_cascaderef01_Right : Str → Option (Bool) := fun v0 => p_cascaderef01_Right_0 v0
theorem s_cascaderef01_Right : ∀ {a0 : Str} {r0 : Bool}, p_cascaderef01_Right a0 = some r0 → ∀ stk, (sysW table glob).pcall 30 [(.d (.str a0))] stk = some (.d (.bool r0)) := by
  intro _ _ hp stk
  exact pcall_of (T := table) (G := glob) (f := 30) rfl rfl (s_cascaderef01_Right_0 stk _ _ hp)
noncomputable def p_cascaderef01_Runes_2 (v0 : Str) (o3_g : Nat) (o3 : (List Int)) (v4 : Int) : Option ((List Int)) := Prims.real.loop (fun (s : Str × Nat × (List Int) × Int) => match s with | (v0, o3_g, o3, v4) => b_cascaderef01_Runes_2 Prims.real p_cascaderef01_Right p_cascaderef01_Size  v0 o3_g o3 v4) (v0, o3_g, o3, v4)
theorem u_cascaderef01_Runes_2 (v0 : Str) (o3_g : Nat) (o3 : (List Int)) (v4 : Int) : p_cascaderef01_Runes_2 v0 o3_g o3 v4 = match b_cascaderef01_Runes_2 Prims.real p_cascaderef01_Right p_cascaderef01_Size  v0 o3_g o3 v4 with
    | some (.inl (v0', o3_g', o3', v4')) => p_cascaderef01_Runes_2 v0' o3_g' o3' v4'
    | some (.inr r) => some r
    | none => none := by
  show Pr.loop _ _ = _
  rw [Pr.loop_eq]
  dsimp only
  generalize b_cascaderef01_Runes_2 Prims.real p_cascaderef01_Right p_cascaderef01_Size  v0 o3_g o3 v4 = y
  cases y with
  | none => rfl
  | some y => cases y <;> rfl
theorem s_cascaderef01_Runes_2 (stk : Stk) (m : Nat) (v0 : Str) (o3_g : Nat) (o3 : (List Int)) (v4 : Int) {out} (hp : p_cascaderef01_Runes_2 v0 o3_g o3 v4 = some out) : atW table glob 22 true 2 [.lp ⟨2, [0, 3, 4], [[3]]⟩, .blk 0, .sub ⟨4, [3], [[3]]⟩] ⟨[(0, (.d (.str v0))), (3, (.msl ⟨m, [3]⟩ o3_g 0 (List.length (List.map E_int32 o3)))), (4, (.d (.int .i64 v4)))], ⟨m, [([3], (.arr o3_g 1 (List.map E_int32 o3)))]⟩ :: stk⟩ = (fun r0 => (some (.ret (.d (.sl (List.map E_int32 r0))), stk) : Rk')) out := by
  refine LW.ind (fun (s : Str × Nat × (List Int) × Int) => match s with | (v0, o3_g, o3, v4) => b_cascaderef01_Runes_2 Prims.real p_cascaderef01_Right p_cascaderef01_Size  v0 o3_g o3 v4) (fun (s : Str × Nat × (List Int) × Int) o => match s with | (v0, o3_g, o3, v4) => atW table glob 22 true 2 [.lp ⟨2, [0, 3, 4], [[3]]⟩, .blk 0, .sub ⟨4, [3], [[3]]⟩] ⟨[(0, (.d (.str v0))), (3, (.msl ⟨m, [3]⟩ o3_g 0 (List.length (List.map E_int32 o3)))), (4, (.d (.int .i64 v4)))], ⟨m, [([3], (.arr o3_g 1 (List.map E_int32 o3)))]⟩ :: stk⟩ = (fun r0 => (some (.ret (.d (.sl (List.map E_int32 r0))), stk) : Rk')) o) (fun s r e => ?_) (fun s t r e ih => ?_) (v0, o3_g, o3, v4) out hp
  · obtain ⟨v0, o3_g, o3, v4⟩ := s
    exact o_cascaderef01_Runes_2 (h := LW) (hT := rfl) (he_e_int32 := fun _ => rfl) (hz_e_int32 := fun l => LW.allsz E_int32 1 (fun a => ⟨rfl, rfl⟩) l) (he_e_uint8 := fun _ => rfl) (hz_e_uint8 := fun l => LW.allsz E_uint8 1 (fun a => ⟨rfl, rfl⟩) l) (c_cascaderef01_Right := p_cascaderef01_Right) (c_cascaderef01_Size := p_cascaderef01_Size) (h_cascaderef01_Right := s_cascaderef01_Right) (h_cascaderef01_Size := s_cascaderef01_Size)   stk m v0 o3_g o3 v4 e
  · obtain ⟨v0, o3_g, o3, v4⟩ := s; obtain ⟨v0', o3_g', o3', v4'⟩ := t
    exact (o_cascaderef01_Runes_2 (h := LW) (hT := rfl) (he_e_int32 := fun _ => rfl) (hz_e_int32 := fun l => LW.allsz E_int32 1 (fun a => ⟨rfl, rfl⟩) l) (he_e_uint8 := fun _ => rfl) (hz_e_uint8 := fun l => LW.allsz E_uint8 1 (fun a => ⟨rfl, rfl⟩) l) (c_cascaderef01_Right := p_cascaderef01_Right) (c_cascaderef01_Size := p_cascaderef01_Size) (h_cascaderef01_Right := s_cascaderef01_Right) (h_cascaderef01_Size := s_cascaderef01_Size)   stk m v0 o3_g o3 v4 e).trans ih
noncomputable def p_cascaderef01_Runes_0 (v0 : Str) : Option ((List Int)) := b_cascaderef01_Runes_0 Prims.real p_cascaderef01_Right p_cascaderef01_Size p_cascaderef01_Runes_2 v0
theorem s_cascaderef01_Runes_0 (stk : Stk) (m : Nat) (v0 : Str) {out} (hp : p_cascaderef01_Runes_0 v0 = some out) : atW table glob 22 true 0 [] ⟨[(0, (.d (.str v0)))], ⟨m, []⟩ :: stk⟩ = (fun r0 => (some (.ret (.d (.sl (List.map E_int32 r0))), stk) : Rk')) out := by
  exact o_cascaderef01_Runes_0 (h := LW) (hT := rfl) (he_e_int32 := fun _ => rfl) (hz_e_int32 := fun l => LW.allsz E_int32 1 (fun a => ⟨rfl, rfl⟩) l) (he_e_uint8 := fun _ => rfl) (hz_e_uint8 := fun l => LW.allsz E_uint8 1 (fun a => ⟨rfl, rfl⟩) l) (c_cascaderef01_Right := p_cascaderef01_Right) (c_cascaderef01_Size := p_cascaderef01_Size) (h_cascaderef01_Right := s_cascaderef01_Right) (h_cascaderef01_Size := s_cascaderef01_Size) (l_2 := p_cascaderef01_Runes_2) (h_l_2 := fun hp => s_cascaderef01_Runes_2 stk m _ _ _ _ hp) stk m v0 hp
noncomputable def p_cascaderef01_Runes : Str → Option ((List Int)) := fun v0 => p_cascaderef01_Runes_0 v0
theorem s_cascaderef01_Runes : ∀ {a0 : Str} {r0 : (List Int)}, p_cascaderef01_Runes a0 = some r0 → ∀ stk, (sysW table glob).pcall 22 [(.d (.str a0))] stk = some (.d (.sl (List.map E_int32 r0))) := by
  intro _ _ hp stk
  exact pcall_of (T := table) (G := glob) (f := 22) rfl rfl (s_cascaderef01_Runes_0 stk _ _ hp)
noncomputable def p_cascadelaw01_TextRight_0 (v0 : Str) : Option (Bool) := b_cascadelaw01_TextRight_0 Prims.real p_cascadelaw01_awake p_text_Right p_cascaderef01_Bad p_text_Bad p_cascadelaw01_same p_text_Runes p_cascaderef01_Runes  v0
theorem s_cascadelaw01_TextRight_0 (stk : Stk) (m : Nat) (v0 : Str) {out} (hp : p_cascadelaw01_TextRight_0 v0 = some out) : atW table glob 4 true 0 [] ⟨[(0, (.d (.str v0)))], ⟨m, []⟩ :: stk⟩ = (fun r0 => (some (.ret (.d (.bool r0)), stk) : Rk')) out := by
  exact o_cascadelaw01_TextRight_0 (h := LW) (hT := rfl) (he_e_int32 := fun _ => rfl) (hz_e_int32 := fun l => LW.allsz E_int32 1 (fun a => ⟨rfl, rfl⟩) l) (he_e_uint8 := fun _ => rfl) (hz_e_uint8 := fun l => LW.allsz E_uint8 1 (fun a => ⟨rfl, rfl⟩) l) (c_cascadelaw01_awake := p_cascadelaw01_awake) (c_text_Right := p_text_Right) (c_cascaderef01_Bad := p_cascaderef01_Bad) (c_text_Bad := p_text_Bad) (c_cascadelaw01_same := p_cascadelaw01_same) (c_text_Runes := p_text_Runes) (c_cascaderef01_Runes := p_cascaderef01_Runes) (h_cascadelaw01_awake := s_cascadelaw01_awake) (h_text_Right := s_text_Right) (h_cascaderef01_Bad := s_cascaderef01_Bad) (h_text_Bad := s_text_Bad) (h_cascadelaw01_same := s_cascadelaw01_same) (h_text_Runes := s_text_Runes) (h_cascaderef01_Runes := s_cascaderef01_Runes)   stk m v0 hp
noncomputable def p_cascadelaw01_TextRight : Str → Option (Bool) := fun v0 => p_cascadelaw01_TextRight_0 v0
theorem s_cascadelaw01_TextRight : ∀ {a0 : Str} {r0 : Bool}, p_cascadelaw01_TextRight a0 = some r0 → ∀ stk, (sysW table glob).pcall 4 [(.d (.str a0))] stk = some (.d (.bool r0)) := by
  intro _ _ hp stk
  exact pcall_of (T := table) (G := glob) (f := 4) rfl rfl (s_cascadelaw01_TextRight_0 stk _ _ hp)
noncomputable def p_unicode_utf8_ValidRune_1  : Option (Bool) := b_unicode_utf8_ValidRune_1 Prims.real   
theorem s_unicode_utf8_ValidRune_1 (stk : Stk) (m : Nat)  {out} (hp : p_unicode_utf8_ValidRune_1  = some out) : atW table glob 41 true 1 [] ⟨[], ⟨m, []⟩ :: stk⟩ = (fun r0 => (some (.ret (.d (.bool r0)), stk) : Rk')) out := by
  exact o_unicode_utf8_ValidRune_1 (h := LW) (hT := rfl) (he_e_int32 := fun _ => rfl) (hz_e_int32 := fun l => LW.allsz E_int32 1 (fun a => ⟨rfl, rfl⟩) l) (he_e_uint8 := fun _ => rfl) (hz_e_uint8 := fun l => LW.allsz E_uint8 1 (fun a => ⟨rfl, rfl⟩) l)     stk m  hp
noncomputable def p_unicode_utf8_ValidRune_0 (v0 : Int) : Option (Bool) := b_unicode_utf8_ValidRune_0 Prims.real  p_unicode_utf8_ValidRune_1 v0
theorem s_unicode_utf8_ValidRune_0 (stk : Stk) (m : Nat) (v0 : Int) {out} (hp : p_unicode_utf8_ValidRune_0 v0 = some out) : atW table glob 41 true 0 [] ⟨[(0, (.d (.int .i32 v0)))], ⟨m, []⟩ :: stk⟩ = (fun r0 => (some (.ret (.d (.bool r0)), stk) : Rk')) out := by
  exact o_unicode_utf8_ValidRune_0 (h := LW) (hT := rfl) (he_e_int32 := fun _ => rfl) (hz_e_int32 := fun l => LW.allsz E_int32 1 (fun a => ⟨rfl, rfl⟩) l) (he_e_uint8 := fun _ => rfl) (hz_e_uint8 := fun l => LW.allsz E_uint8 1 (fun a => ⟨rfl, rfl⟩) l)   (l_1 := p_unicode_utf8_ValidRune_1) (h_l_1 := fun hp => s_unicode_utf8_ValidRune_1 stk m  hp) stk m v0 hp
noncomputable def p_unicode_utf8_ValidRune : Int → Option (Bool) := fun v0 => p_unicode_utf8_ValidRune_0 v0
theorem s_unicode_utf8_ValidRune : ∀ {a0 : Int} {r0 : Bool}, p_unicode_utf8_ValidRune a0 = some r0 → ∀ stk, (sysW table glob).pcall 41 [(.d (.int .i32 a0))] stk = some (.d (.bool r0)) := by
  intro _ _ hp stk
  exact pcall_of (T := table) (G := glob) (f := 41) rfl rfl (s_unicode_utf8_ValidRune_0 stk _ _ hp)
noncomputable def p_text_Of_1 (v7 : (List Int)) (v8 : Int) (v9 : Int) (o4_u : Bool) (o4_1_g : Nat) (o4_1_s : Str) : Option (Str × Int) := Prims.real.loop (fun (s : (List Int) × Int × Int × Bool × Nat × Str) => match s with | (v7, v8, v9, o4_u, o4_1_g, o4_1_s) => b_text_Of_1 Prims.real p_unicode_utf8_ValidRune p_strings_Builder_WriteRune p_strings_Builder_String  v7 v8 v9 o4_u o4_1_g o4_1_s) (v7, v8, v9, o4_u, o4_1_g, o4_1_s)
theorem u_text_Of_1 (v7 : (List Int)) (v8 : Int) (v9 : Int) (o4_u : Bool) (o4_1_g : Nat) (o4_1_s : Str) : p_text_Of_1 v7 v8 v9 o4_u o4_1_g o4_1_s = match b_text_Of_1 Prims.real p_unicode_utf8_ValidRune p_strings_Builder_WriteRune p_strings_Builder_String  v7 v8 v9 o4_u o4_1_g o4_1_s with
    | some (.inl (v7', v8', v9', o4_u', o4_1_g', o4_1_s')) => p_text_Of_1 v7' v8' v9' o4_u' o4_1_g' o4_1_s'
    | some (.inr r) => some r
    | none => none := by
  show Pr.loop _ _ = _
  rw [Pr.loop_eq]
  dsimp only
  generalize b_text_Of_1 Prims.real p_unicode_utf8_ValidRune p_strings_Builder_WriteRune p_strings_Builder_String  v7 v8 v9 o4_u o4_1_g o4_1_s = y
  cases y with
  | none => rfl
  | some y => cases y <;> rfl
theorem s_text_Of_1 (stk : Stk) (m : Nat) (v7 : (List Int)) (v8 : Int) (v9 : Int) (o4_u : Bool) (o4_1_g : Nat) (o4_1_s : Str) {out} (hp : p_text_Of_1 v7 v8 v9 o4_u o4_1_g o4_1_s = some out) : atW table glob 26 true 1 [.lp ⟨1, [4, 7, 8, 9], [[4], [4, 1]]⟩, .blk 0, .sub ⟨5, [4], [[4], [4, 1]]⟩] ⟨[(4, (.ref ⟨m, [4]⟩ 0)), (7, (.d (.sl (List.map E_int32 v7)))), (8, (.d (.int .i64 v8))), (9, (.d (.int .i64 v9)))], ⟨m, [([4], (.bld 53 o4_u (.msl ⟨m, [4, 1]⟩ o4_1_g 0 0))), ([4, 1], (.hid 5 o4_1_g o4_1_s))]⟩ :: stk⟩ = (fun (r0, r1) => (some (.ret (.d (.tup [(.str r0), (.int .i64 r1)])), stk) : Rk')) out := by
  refine LW.ind (fun (s : (List Int) × Int × Int × Bool × Nat × Str) => match s with | (v7, v8, v9, o4_u, o4_1_g, o4_1_s) => b_text_Of_1 Prims.real p_unicode_utf8_ValidRune p_strings_Builder_WriteRune p_strings_Builder_String  v7 v8 v9 o4_u o4_1_g o4_1_s) (fun (s : (List Int) × Int × Int × Bool × Nat × Str) o => match s with | (v7, v8, v9, o4_u, o4_1_g, o4_1_s) => atW table glob 26 true 1 [.lp ⟨1, [4, 7, 8, 9], [[4], [4, 1]]⟩, .blk 0, .sub ⟨5, [4], [[4], [4, 1]]⟩] ⟨[(4, (.ref ⟨m, [4]⟩ 0)), (7, (.d (.sl (List.map E_int32 v7)))), (8, (.d (.int .i64 v8))), (9, (.d (.int .i64 v9)))], ⟨m, [([4], (.bld 53 o4_u (.msl ⟨m, [4, 1]⟩ o4_1_g 0 0))), ([4, 1], (.hid 5 o4_1_g o4_1_s))]⟩ :: stk⟩ = (fun (r0, r1) => (some (.ret (.d (.tup [(.str r0), (.int .i64 r1)])), stk) : Rk')) o) (fun s r e => ?_) (fun s t r e ih => ?_) (v7, v8, v9, o4_u, o4_1_g, o4_1_s) out hp
  · obtain ⟨v7, v8, v9, o4_u, o4_1_g, o4_1_s⟩ := s
    exact o_text_Of_1 (h := LW) (hT := rfl) (he_e_int32 := fun _ => rfl) (hz_e_int32 := fun l => LW.allsz E_int32 1 (fun a => ⟨rfl, rfl⟩) l) (he_e_uint8 := fun _ => rfl) (hz_e_uint8 := fun l => LW.allsz E_uint8 1 (fun a => ⟨rfl, rfl⟩) l) (c_unicode_utf8_ValidRune := p_unicode_utf8_ValidRune) (c_strings_Builder_WriteRune := p_strings_Builder_WriteRune) (c_strings_Builder_String := p_strings_Builder_String) (h_unicode_utf8_ValidRune := s_unicode_utf8_ValidRune) (h_strings_Builder_WriteRune := s_strings_Builder_WriteRune) (h_strings_Builder_String := s_strings_Builder_String)   stk m v7 v8 v9 o4_u o4_1_g o4_1_s e
  · obtain ⟨v7, v8, v9, o4_u, o4_1_g, o4_1_s⟩ := s; obtain ⟨v7', v8', v9', o4_u', o4_1_g', o4_1_s'⟩ := t
    exact (o_text_Of_1 (h := LW) (hT := rfl) (he_e_int32 := fun _ => rfl) (hz_e_int32 := fun l => LW.allsz E_int32 1 (fun a => ⟨rfl, rfl⟩) l) (he_e_uint8 := fun _ => rfl) (hz_e_uint8 := fun l => LW.allsz E_uint8 1 (fun a => ⟨rfl, rfl⟩) l) (c_unicode_utf8_ValidRune := p_unicode_utf8_ValidRune) (c_strings_Builder_WriteRune := p_strings_Builder_WriteRune) (c_strings_Builder_String := p_strings_Builder_String) (h_unicode_utf8_ValidRune := s_unicode_utf8_ValidRune) (h_strings_Builder_WriteRune := s_strings_Builder_WriteRune) (h_strings_Builder_String := s_strings_Builder_String)   stk m v7 v8 v9 o4_u o4_1_g o4_1_s e).trans ih
noncomputable def p_text_Of_0 (v0 : (List Int)) : Option (Str × Int) := b_text_Of_0 Prims.real p_unicode_utf8_ValidRune p_strings_Builder_WriteRune p_strings_Builder_String p_text_Of_1 v0
theorem s_text_Of_0 (stk : Stk) (m : Nat) (v0 : (List Int)) {out} (hp : p_text_Of_0 v0 = some out) : atW table glob 26 true 0 [] ⟨[(0, (.d (.sl (List.map E_int32 v0))))], ⟨m, []⟩ :: stk⟩ = (fun (r0, r1) => (some (.ret (.d (.tup [(.str r0), (.int .i64 r1)])), stk) : Rk')) out := by
  exact o_text_Of_0 (h := LW) (hT := rfl) (he_e_int32 := fun _ => rfl) (hz_e_int32 := fun l => LW.allsz E_int32 1 (fun a => ⟨rfl, rfl⟩) l) (he_e_uint8 := fun _ => rfl) (hz_e_uint8 := fun l => LW.allsz E_uint8 1 (fun a => ⟨rfl, rfl⟩) l) (c_unicode_utf8_ValidRune := p_unicode_utf8_ValidRune) (c_strings_Builder_WriteRune := p_strings_Builder_WriteRune) (c_strings_Builder_String := p_strings_Builder_String) (h_unicode_utf8_ValidRune := s_unicode_utf8_ValidRune) (h_strings_Builder_WriteRune := s_strings_Builder_WriteRune) (h_strings_Builder_String := s_strings_Builder_String) (l_1 := p_text_Of_1) (h_l_1 := fun hp => s_text_Of_1 stk m _ _ _ _ _ _ hp) stk m v0 hp
noncomputable def p_text_Of : (List Int) → Option (Str × Int) := fun v0 => p_text_Of_0 v0
theorem s_text_Of : ∀ {a0 : (List Int)} {r0 : Str} {r1 : Int}, p_text_Of a0 = some (r0, r1) → ∀ stk, (sysW table glob).pcall 26 [(.d (.sl (List.map E_int32 a0)))] stk = some (.d (.tup [(.str r0), (.int .i64 r1)])) := by
  intro _ _ _ hp stk
  exact pcall_of (T := table) (G := glob) (f := 26) rfl rfl (s_text_Of_0 stk _ _ hp)
noncomputable def p_cascaderef01_Rune_1 (v3 : Int) : Option (Str) := b_cascaderef01_Rune_1 Prims.real   v3
theorem s_cascaderef01_Rune_1 (stk : Stk) (m : Nat) (v3 : Int) {out} (hp : p_cascaderef01_Rune_1 v3 = some out) : atW table glob 44 true 1 [] ⟨[(3, (.d (.int .i64 v3)))], ⟨m, []⟩ :: stk⟩ = (fun r0 => (some (.ret (.d (.str r0)), stk) : Rk')) out := by
  exact o_cascaderef01_Rune_1 (h := LW) (hT := rfl) (he_e_int32 := fun _ => rfl) (hz_e_int32 := fun l => LW.allsz E_int32 1 (fun a => ⟨rfl, rfl⟩) l) (he_e_uint8 := fun _ => rfl) (hz_e_uint8 := fun l => LW.allsz E_uint8 1 (fun a => ⟨rfl, rfl⟩) l)     stk m v3 hp
noncomputable def p_cascaderef01_Rune_0 (v0 : Int) : Option (Str) := b_cascaderef01_Rune_0 Prims.real  p_cascaderef01_Rune_1 v0
theorem s_cascaderef01_Rune_0 (stk : Stk) (m : Nat) (v0 : Int) {out} (hp : p_cascaderef01_Rune_0 v0 = some out) : atW table glob 44 true 0 [] ⟨[(0, (.d (.int .i32 v0)))], ⟨m, []⟩ :: stk⟩ = (fun r0 => (some (.ret (.d (.str r0)), stk) : Rk')) out := by
  exact o_cascaderef01_Rune_0 (h := LW) (hT := rfl) (he_e_int32 := fun _ => rfl) (hz_e_int32 := fun l => LW.allsz E_int32 1 (fun a => ⟨rfl, rfl⟩) l) (he_e_uint8 := fun _ => rfl) (hz_e_uint8 := fun l => LW.allsz E_uint8 1 (fun a => ⟨rfl, rfl⟩) l)   (l_1 := p_cascaderef01_Rune_1) (h_l_1 := fun hp => s_cascaderef01_Rune_1 stk m _ hp) stk m v0 hp
noncomputable def p_cascaderef01_Rune : Int → Option (Str) := fun v0 => p_cascaderef01_Rune_0 v0
theorem s_cascaderef01_Rune : ∀ {a0 : Int} {r0 : Str}, p_cascaderef01_Rune a0 = some r0 → ∀ stk, (sysW table glob).pcall 44 [(.d (.int .i32 a0))] stk = some (.d (.str r0)) := by
  intro _ _ hp stk
  exact pcall_of (T := table) (G := glob) (f := 44) rfl rfl (s_cascaderef01_Rune_0 stk _ _ hp)
noncomputable def p_cascaderef01_Of_1 (v0 : (List Int)) (v4 : Str) (v5 : Int) : Option (Str × Int) := Prims.real.loop (fun (s : (List Int) × Str × Int) => match s with | (v0, v4, v5) => b_cascaderef01_Of_1 Prims.real p_cascaderef01_Rune  v0 v4 v5) (v0, v4, v5)
theorem u_cascaderef01_Of_1 (v0 : (List Int)) (v4 : Str) (v5 : Int) : p_cascaderef01_Of_1 v0 v4 v5 = match b_cascaderef01_Of_1 Prims.real p_cascaderef01_Rune  v0 v4 v5 with
    | some (.inl (v0', v4', v5')) => p_cascaderef01_Of_1 v0' v4' v5'
    | some (.inr r) => some r
    | none => none := by
  show Pr.loop _ _ = _
  rw [Pr.loop_eq]
  dsimp only
  generalize b_cascaderef01_Of_1 Prims.real p_cascaderef01_Rune  v0 v4 v5 = y
  cases y with
  | none => rfl
  | some y => cases y <;> rfl
theorem s_cascaderef01_Of_1 (stk : Stk) (m : Nat) (v0 : (List Int)) (v4 : Str) (v5 : Int) {out} (hp : p_cascaderef01_Of_1 v0 v4 v5 = some out) : atW table glob 27 true 1 [.lp ⟨1, [0, 4, 5], []⟩, .blk 0, .sub ⟨5, [4], []⟩] ⟨[(0, (.d (.sl (List.map E_int32 v0)))), (4, (.d (.str v4))), (5, (.d (.int .i64 v5)))], ⟨m, []⟩ :: stk⟩ = (fun (r0, r1) => (some (.ret (.d (.tup [(.str r0), (.int .i64 r1)])), stk) : Rk')) out := by
  refine LW.ind (fun (s : (List Int) × Str × Int) => match s with | (v0, v4, v5) => b_cascaderef01_Of_1 Prims.real p_cascaderef01_Rune  v0 v4 v5) (fun (s : (List Int) × Str × Int) o => match s with | (v0, v4, v5) => atW table glob 27 true 1 [.lp ⟨1, [0, 4, 5], []⟩, .blk 0, .sub ⟨5, [4], []⟩] ⟨[(0, (.d (.sl (List.map E_int32 v0)))), (4, (.d (.str v4))), (5, (.d (.int .i64 v5)))], ⟨m, []⟩ :: stk⟩ = (fun (r0, r1) => (some (.ret (.d (.tup [(.str r0), (.int .i64 r1)])), stk) : Rk')) o) (fun s r e => ?_) (fun s t r e ih => ?_) (v0, v4, v5) out hp
  · obtain ⟨v0, v4, v5⟩ := s
    exact o_cascaderef01_Of_1 (h := LW) (hT := rfl) (he_e_int32 := fun _ => rfl) (hz_e_int32 := fun l => LW.allsz E_int32 1 (fun a => ⟨rfl, rfl⟩) l) (he_e_uint8 := fun _ => rfl) (hz_e_uint8 := fun l => LW.allsz E_uint8 1 (fun a => ⟨rfl, rfl⟩) l) (c_cascaderef01_Rune := p_cascaderef01_Rune) (h_cascaderef01_Rune := s_cascaderef01_Rune)   stk m v0 v4 v5 e
  · obtain ⟨v0, v4, v5⟩ := s; obtain ⟨v0', v4', v5'⟩ := t
    exact (o_cascaderef01_Of_1 (h := LW) (hT := rfl) (he_e_int32 := fun _ => rfl) (hz_e_int32 := fun l => LW.allsz E_int32 1 (fun a => ⟨rfl, rfl⟩) l) (he_e_uint8 := fun _ => rfl) (hz_e_uint8 := fun l => LW.allsz E_uint8 1 (fun a => ⟨rfl, rfl⟩) l) (c_cascaderef01_Rune := p_cascaderef01_Rune) (h_cascaderef01_Rune := s_cascaderef01_Rune)   stk m v0 v4 v5 e).trans ih
noncomputable def p_cascaderef01_Of_0 (v0 : (List Int)) : Option (Str × Int) := b_cascaderef01_Of_0 Prims.real p_cascaderef01_Rune p_cascaderef01_Of_1 v0
theorem s_cascaderef01_Of_0 (stk : Stk) (m : Nat) (v0 : (List Int)) {out} (hp : p_cascaderef01_Of_0 v0 = some out) : atW table glob 27 true 0 [] ⟨[(0, (.d (.sl (List.map E_int32 v0))))], ⟨m, []⟩ :: stk⟩ = (fun (r0, r1) => (some (.ret (.d (.tup [(.str r0), (.int .i64 r1)])), stk) : Rk')) out := by
  exact o_cascaderef01_Of_0 (h := LW) (hT := rfl) (he_e_int32 := fun _ => rfl) (hz_e_int32 := fun l => LW.allsz E_int32 1 (fun a => ⟨rfl, rfl⟩) l) (he_e_uint8 := fun _ => rfl) (hz_e_uint8 := fun l => LW.allsz E_uint8 1 (fun a => ⟨rfl, rfl⟩) l) (c_cascaderef01_Rune := p_cascaderef01_Rune) (h_cascaderef01_Rune := s_cascaderef01_Rune) (l_1 := p_cascaderef01_Of_1) (h_l_1 := fun hp => s_cascaderef01_Of_1 stk m _ _ _ hp) stk m v0 hp
noncomputable def p_cascaderef01_Of : (List Int) → Option (Str × Int) := fun v0 => p_cascaderef01_Of_0 v0
theorem s_cascaderef01_Of : ∀ {a0 : (List Int)} {r0 : Str} {r1 : Int}, p_cascaderef01_Of a0 = some (r0, r1) → ∀ stk, (sysW table glob).pcall 27 [(.d (.sl (List.map E_int32 a0)))] stk = some (.d (.tup [(.str r0), (.int .i64 r1)])) := by
  intro _ _ _ hp stk
  exact pcall_of (T := table) (G := glob) (f := 27) rfl rfl (s_cascaderef01_Of_0 stk _ _ hp)
noncomputable def p_cascadelaw01_TextOf_0 (v0 : (List Int)) : Option (Bool) := b_cascadelaw01_TextOf_0 Prims.real p_cascadelaw01_awake p_cascadelaw01_same p_text_Runes p_text_Of p_cascaderef01_Of  v0
theorem s_cascadelaw01_TextOf_0 (stk : Stk) (m : Nat) (v0 : (List Int)) {out} (hp : p_cascadelaw01_TextOf_0 v0 = some out) : atW table glob 7 true 0 [] ⟨[(0, (.d (.sl (List.map E_int32 v0))))], ⟨m, []⟩ :: stk⟩ = (fun r0 => (some (.ret (.d (.bool r0)), stk) : Rk')) out := by
  exact o_cascadelaw01_TextOf_0 (h := LW) (hT := rfl) (he_e_int32 := fun _ => rfl) (hz_e_int32 := fun l => LW.allsz E_int32 1 (fun a => ⟨rfl, rfl⟩) l) (he_e_uint8 := fun _ => rfl) (hz_e_uint8 := fun l => LW.allsz E_uint8 1 (fun a => ⟨rfl, rfl⟩) l) (c_cascadelaw01_awake := p_cascadelaw01_awake) (c_cascadelaw01_same := p_cascadelaw01_same) (c_text_Runes := p_text_Runes) (c_text_Of := p_text_Of) (c_cascaderef01_Of := p_cascaderef01_Of) (h_cascadelaw01_awake := s_cascadelaw01_awake) (h_cascadelaw01_same := s_cascadelaw01_same) (h_text_Runes := s_text_Runes) (h_text_Of := s_text_Of) (h_cascaderef01_Of := s_cascaderef01_Of)   stk m v0 hp
noncomputable def p_cascadelaw01_TextOf : (List Int) → Option (Bool) := fun v0 => p_cascadelaw01_TextOf_0 v0
theorem s_cascadelaw01_TextOf : ∀ {a0 : (List Int)} {r0 : Bool}, p_cascadelaw01_TextOf a0 = some r0 → ∀ stk, (sysW table glob).pcall 7 [(.d (.sl (List.map E_int32 a0)))] stk = some (.d (.bool r0)) := by
  intro _ _ hp stk
  exact pcall_of (T := table) (G := glob) (f := 7) rfl rfl (s_cascadelaw01_TextOf_0 stk _ _ hp)
noncomputable def p_cascadelaw01_TextBack_0 (v0 : Str) : Option (Bool) := b_cascadelaw01_TextBack_0 Prims.real p_cascadelaw01_awake p_text_Right p_text_Bad p_text_Runes p_text_Of  v0
theorem s_cascadelaw01_TextBack_0 (stk : Stk) (m : Nat) (v0 : Str) {out} (hp : p_cascadelaw01_TextBack_0 v0 = some out) : atW table glob 8 true 0 [] ⟨[(0, (.d (.str v0)))], ⟨m, []⟩ :: stk⟩ = (fun r0 => (some (.ret (.d (.bool r0)), stk) : Rk')) out := by
  exact o_cascadelaw01_TextBack_0 (h := LW) (hT := rfl) (he_e_int32 := fun _ => rfl) (hz_e_int32 := fun l => LW.allsz E_int32 1 (fun a => ⟨rfl, rfl⟩) l) (he_e_uint8 := fun _ => rfl) (hz_e_uint8 := fun l => LW.allsz E_uint8 1 (fun a => ⟨rfl, rfl⟩) l) (c_cascadelaw01_awake := p_cascadelaw01_awake) (c_text_Right := p_text_Right) (c_text_Bad := p_text_Bad) (c_text_Runes := p_text_Runes) (c_text_Of := p_text_Of) (h_cascadelaw01_awake := s_cascadelaw01_awake) (h_text_Right := s_text_Right) (h_text_Bad := s_text_Bad) (h_text_Runes := s_text_Runes) (h_text_Of := s_text_Of)   stk m v0 hp
noncomputable def p_cascadelaw01_TextBack : Str → Option (Bool) := fun v0 => p_cascadelaw01_TextBack_0 v0
theorem s_cascadelaw01_TextBack : ∀ {a0 : Str} {r0 : Bool}, p_cascadelaw01_TextBack a0 = some r0 → ∀ stk, (sysW table glob).pcall 8 [(.d (.str a0))] stk = some (.d (.bool r0)) := by
  intro _ _ hp stk
  exact pcall_of (T := table) (G := glob) (f := 8) rfl rfl (s_cascadelaw01_TextBack_0 stk _ _ hp)
end Go.Abs.A
