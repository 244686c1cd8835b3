import Derived.Test.YtncemafmkkphjaaDoorWAb
import Derived.KernelRfl
set_option linter.unusedVariables false
namespace Go.Abs.A
set_option maxRecDepth 100000
theorem table_ok : ∀ f kf, table f = some kf → kf.ok = true := by
  intro f kf h
  unfold table at h
  split at h <;> first | (cases h; done) | (cases h; kernel_rfl)
theorem LW : KLaws (oldT table) iterW glob (callW (oldT table) glob) (sysW table glob).pcall (sysW table glob).fcall (List.length) (fun xs i => xs[i]?) (fun xs lo hi => (xs.take hi).drop lo) (fun xs ys => xs ++ ys) (fun xs i x => xs.set i x) (fun n x => List.replicate n x) (allSz) (List.length) (fun s i => s[i]?) (fun s lo hi => (s.take hi).drop lo) (fun a b => a ++ b) (fun a b => a == b) (fun a b => Op.bytesLess a b) (fun s => s.map fun b => .int .u8 b.toNat) (bytesOf) (fun s i => Utf8.decode ⟨⟨s⟩⟩ i) (fun n => (Utf8.encode n).data.toList) (intAr) (intCmp) (fun k n => k.wrap n) (fun n => decide (n = 0)) (fun n => decide (n < 0)) (fun n => n.toNat) (fun (n : Nat) => (n : Int)) (fun (b : UInt8) => (b.toNat : Int)) (fun a b => decide (a ≤ b)) (fun a b => a + b) (fun a b => a - b) (fun n b => decide (n * b ≤ room ∧ n ≤ room)) (findE) (Go.Abs.putE) (Go.Abs.findK) (List.length) (frzMap) (atW table glob) (fun s => topN s + 1) sameStk (fun {_} e l => List.map e l) Pr.quo Pr.shf Pr.slen Pr.sidx Pr.ssub Pr.scat Pr.sit Pr.slist Pr.ofBytes @Pr.len @Pr.idx @Pr.sub @Pr.app @Pr.set @Pr.make @Pr.loop table := KLaws.real (G := glob) table_ok
def E_int32 : Int → D := fun x => (.int .i32 x)
def E_uint8 : Int → D := fun x => (.int .u8 x)
theorem s_unicode_utf8_DecodeRuneInString : ∀ {a0 : Str} {r0 : Int} {r1 : Int}, p_unicode_utf8_DecodeRuneInString a0 = some (r0, r1) → ∀ stk, (sysW table glob).pcall 38 [(.d (.str a0))] stk = some (.d (.tup [(.int .i32 r0), (.int .i64 r1)])) := by
  intro _ _ _ hp stk
  exact pcall_ext (T := table) (G := glob) (f := 38) (e := ext_unicode_utf8_DecodeRuneInString) rfl rfl (x_unicode_utf8_DecodeRuneInString hp) stk
def p_strings_Builder_WriteRune : Str → Int → Option (Str × Int) := brune
theorem s_strings_Builder_WriteRune : ∀ {s : Str} {a : Int} {s1 : Str} {n : Int}, p_strings_Builder_WriteRune s a = some (s1, n) → ∀ stk l l1 u g, getO stk l = some (.bld 53 u (.msl l1 g 0 0)) → getO stk l1 = some (.hid 5 g s) → (sysW table glob).fcall 42 [.ref l 0, .d (.int .i32 a)] stk = some (.d (.tup [.int .i64 n, .nili]), setO (setO stk l1 (.hid 5 (g + 1) s1)) l (.bld 53 true (.msl l1 (g + 1) 0 0))) := by
  intro _ _ _ _ hp stk l l1 u g h1 h2
  exact fcall_eff (T := table) (G := glob) (f := 42) rfl rfl (brune_at h1 h2 hp)
def p_strings_Builder_String : Str → Option Str := btext
theorem s_strings_Builder_String : ∀ {s s1 : Str}, p_strings_Builder_String s = some s1 → ∀ stk l l1 u g, getO stk l = some (.bld 53 u (.msl l1 g 0 0)) → getO stk l1 = some (.hid 5 g s) → (sysW table glob).fcall 43 [.ref l 0] stk = some (.d (.str s1), setO (setO stk l1 (.hid 5 (g + 1) [])) l (.bld 53 u .dead)) := by
  intro _ _ hp stk l l1 u g h1 h2
  exact fcall_eff (T := table) (G := glob) (f := 43) rfl rfl (btext_at h1 h2 hp)
def p_strings_Builder_WriteByte : Str → Int → Option Str := bbyte
theorem s_strings_Builder_WriteByte : ∀ {s : Str} {a : Int} {s1 : Str}, p_strings_Builder_WriteByte s a = some s1 → ∀ stk l l1 u g, getO stk l = some (.bld 53 u (.msl l1 g 0 0)) → getO stk l1 = some (.hid 5 g s) → (sysW table glob).fcall 45 [.ref l 0, .d (.int .u8 a)] stk = some (.d .nili, setO (setO stk l1 (.hid 5 (g + 1) s1)) l (.bld 53 true (.msl l1 (g + 1) 0 0))) := by
  intro _ _ _ hp stk l l1 u g h1 h2
  exact fcall_eff (T := table) (G := glob) (f := 45) rfl rfl (bbyte_at h1 h2 hp)
def p_strings_Builder_WriteString : Str → Str → Option (Str × Int) := bstr
theorem s_strings_Builder_WriteString : ∀ {s a : Str} {s1 : Str} {n : Int}, p_strings_Builder_WriteString s a = some (s1, n) → ∀ stk l l1 u g, getO stk l = some (.bld 53 u (.msl l1 g 0 0)) → getO stk l1 = some (.hid 5 g s) → (sysW table glob).fcall 47 [.ref l 0, .d (.str a)] stk = some (.d (.tup [.int .i64 n, .nili]), setO (setO stk l1 (.hid 5 (g + 1) s1)) l (.bld 53 true (.msl l1 (g + 1) 0 0))) := by
  intro _ _ _ _ hp stk l l1 u g h1 h2
  exact fcall_eff (T := table) (G := glob) (f := 47) rfl rfl (bstr_at h1 h2 hp)
noncomputable def p_text_letter_0 (v0 : Int) : Option (Bool) := b_text_letter_0 Prims.real   v0
theorem s_text_letter_0 (stk : Stk) (m : Nat) (v0 : Int) {out} (hp : p_text_letter_0 v0 = some out) : atW table glob 34 true 0 [] ⟨[(0, (.d (.int .i32 v0)))], ⟨m, []⟩ :: stk⟩ = (fun r0 => (some (.ret (.d (.bool r0)), stk) : Rk')) out := by
  exact o_text_letter_0 (h := LW) (hT := rfl) (he_e_int32 := fun _ => rfl) (hz_e_int32 := fun l => LW.allsz E_int32 1 (fun a => ⟨rfl, rfl⟩) l) (he_e_uint8 := fun _ => rfl) (hz_e_uint8 := fun l => LW.allsz E_uint8 1 (fun a => ⟨rfl, rfl⟩) l)     stk m v0 hp
noncomputable def p_text_letter : Int → Option (Bool) := fun v0 => p_text_letter_0 v0
theorem s_text_letter : ∀ {a0 : Int} {r0 : Bool}, p_text_letter a0 = some r0 → ∀ stk, (sysW table glob).pcall 34 [(.d (.int .i32 a0))] stk = some (.d (.bool r0)) := by
  intro _ _ hp stk
  exact pcall_of (T := table) (G := glob) (f := 34) rfl rfl (s_text_letter_0 stk _ _ hp)
noncomputable def p_text_Name_1 (v0 : Str) (o6_s : Str) (o6_p : Nat) : Option (Bool) := Prims.real.loop (fun (s : Str × Str × Nat) => match s with | (v0, o6_s, o6_p) => b_text_Name_1 Prims.real p_text_letter  v0 o6_s o6_p) (v0, o6_s, o6_p)
theorem u_text_Name_1 (v0 : Str) (o6_s : Str) (o6_p : Nat) : p_text_Name_1 v0 o6_s o6_p = match b_text_Name_1 Prims.real p_text_letter  v0 o6_s o6_p with
    | some (.inl (v0', o6_s', o6_p')) => p_text_Name_1 v0' o6_s' o6_p'
    | some (.inr r) => some r
    | none => none := by
  show Pr.loop _ _ = _
  rw [Pr.loop_eq]
  dsimp only
  generalize b_text_Name_1 Prims.real p_text_letter  v0 o6_s o6_p = y
  cases y with
  | none => rfl
  | some y => cases y <;> rfl
theorem s_text_Name_1 (stk : Stk) (m : Nat) (v0 : Str) (o6_s : Str) (o6_p : Nat) {out} (hp : p_text_Name_1 v0 o6_s o6_p = some out) : atW table glob 15 true 1 [.lp ⟨1, [0, 6], [[6]]⟩, .blk 0, .sub ⟨3, [0], []⟩] ⟨[(0, (.d (.str v0))), (6, (.ref ⟨m, [6]⟩ 0))], ⟨m, [([6], (.siter o6_s o6_p))]⟩ :: stk⟩ = (fun r0 => (some (.ret (.d (.bool r0)), stk) : Rk')) out := by
  refine LW.ind (fun (s : Str × Str × Nat) => match s with | (v0, o6_s, o6_p) => b_text_Name_1 Prims.real p_text_letter  v0 o6_s o6_p) (fun (s : Str × Str × Nat) o => match s with | (v0, o6_s, o6_p) => atW table glob 15 true 1 [.lp ⟨1, [0, 6], [[6]]⟩, .blk 0, .sub ⟨3, [0], []⟩] ⟨[(0, (.d (.str v0))), (6, (.ref ⟨m, [6]⟩ 0))], ⟨m, [([6], (.siter o6_s o6_p))]⟩ :: stk⟩ = (fun r0 => (some (.ret (.d (.bool r0)), stk) : Rk')) o) (fun s r e => ?_) (fun s t r e ih => ?_) (v0, o6_s, o6_p) out hp
  · obtain ⟨v0, o6_s, o6_p⟩ := s
    exact o_text_Name_1 (h := LW) (hT := rfl) (he_e_int32 := fun _ => rfl) (hz_e_int32 := fun l => LW.allsz E_int32 1 (fun a => ⟨rfl, rfl⟩) l) (he_e_uint8 := fun _ => rfl) (hz_e_uint8 := fun l => LW.allsz E_uint8 1 (fun a => ⟨rfl, rfl⟩) l) (c_text_letter := p_text_letter) (h_text_letter := s_text_letter)   stk m v0 o6_s o6_p e
  · obtain ⟨v0, o6_s, o6_p⟩ := s; obtain ⟨v0', o6_s', o6_p'⟩ := t
    exact (o_text_Name_1 (h := LW) (hT := rfl) (he_e_int32 := fun _ => rfl) (hz_e_int32 := fun l => LW.allsz E_int32 1 (fun a => ⟨rfl, rfl⟩) l) (he_e_uint8 := fun _ => rfl) (hz_e_uint8 := fun l => LW.allsz E_uint8 1 (fun a => ⟨rfl, rfl⟩) l) (c_text_letter := p_text_letter) (h_text_letter := s_text_letter)   stk m v0 o6_s o6_p e).trans ih
noncomputable def p_text_Name_0 (v0 : Str) : Option (Bool) := b_text_Name_0 Prims.real p_text_letter p_text_Name_1 v0
theorem s_text_Name_0 (stk : Stk) (m : Nat) (v0 : Str) {out} (hp : p_text_Name_0 v0 = some out) : atW table glob 15 true 0 [] ⟨[(0, (.d (.str v0)))], ⟨m, []⟩ :: stk⟩ = (fun r0 => (some (.ret (.d (.bool r0)), stk) : Rk')) out := by
  exact o_text_Name_0 (h := LW) (hT := rfl) (he_e_int32 := fun _ => rfl) (hz_e_int32 := fun l => LW.allsz E_int32 1 (fun a => ⟨rfl, rfl⟩) l) (he_e_uint8 := fun _ => rfl) (hz_e_uint8 := fun l => LW.allsz E_uint8 1 (fun a => ⟨rfl, rfl⟩) l) (c_text_letter := p_text_letter) (h_text_letter := s_text_letter) (l_1 := p_text_Name_1) (h_l_1 := fun hp => s_text_Name_1 stk m _ _ _ hp) stk m v0 hp
noncomputable def p_text_Name : Str → Option (Bool) := fun v0 => p_text_Name_0 v0
theorem s_text_Name : ∀ {a0 : Str} {r0 : Bool}, p_text_Name a0 = some r0 → ∀ stk, (sysW table glob).pcall 15 [(.d (.str a0))] stk = some (.d (.bool r0)) := by
  intro _ _ hp stk
  exact pcall_of (T := table) (G := glob) (f := 15) rfl rfl (s_text_Name_0 stk _ _ hp)
noncomputable def p_text_Bad_1 (v0 : Str) (o8_s : Str) (o8_p : Nat) : Option (Int) := Prims.real.loop (fun (s : Str × Str × Nat) => match s with | (v0, o8_s, o8_p) => b_text_Bad_1 Prims.real p_unicode_utf8_DecodeRuneInString  v0 o8_s o8_p) (v0, o8_s, o8_p)
theorem u_text_Bad_1 (v0 : Str) (o8_s : Str) (o8_p : Nat) : p_text_Bad_1 v0 o8_s o8_p = match b_text_Bad_1 Prims.real p_unicode_utf8_DecodeRuneInString  v0 o8_s o8_p with
    | some (.inl (v0', o8_s', o8_p')) => p_text_Bad_1 v0' o8_s' o8_p'
    | some (.inr r) => some r
    | none => none := by
  show Pr.loop _ _ = _
  rw [Pr.loop_eq]
  dsimp only
  generalize b_text_Bad_1 Prims.real p_unicode_utf8_DecodeRuneInString  v0 o8_s o8_p = y
  cases y with
  | none => rfl
  | some y => cases y <;> rfl
theorem s_text_Bad_1 (stk : Stk) (m : Nat) (v0 : Str) (o8_s : Str) (o8_p : Nat) {out} (hp : p_text_Bad_1 v0 o8_s o8_p = some out) : atW table glob 19 true 1 [.lp ⟨1, [0, 8], [[8]]⟩, .blk 0, .sub ⟨4, [], []⟩] ⟨[(0, (.d (.str v0))), (8, (.ref ⟨m, [8]⟩ 0))], ⟨m, [([8], (.siter o8_s o8_p))]⟩ :: stk⟩ = (fun r0 => (some (.ret (.d (.int .i64 r0)), stk) : Rk')) out := by
  refine LW.ind (fun (s : Str × Str × Nat) => match s with | (v0, o8_s, o8_p) => b_text_Bad_1 Prims.real p_unicode_utf8_DecodeRuneInString  v0 o8_s o8_p) (fun (s : Str × Str × Nat) o => match s with | (v0, o8_s, o8_p) => atW table glob 19 true 1 [.lp ⟨1, [0, 8], [[8]]⟩, .blk 0, .sub ⟨4, [], []⟩] ⟨[(0, (.d (.str v0))), (8, (.ref ⟨m, [8]⟩ 0))], ⟨m, [([8], (.siter o8_s o8_p))]⟩ :: stk⟩ = (fun r0 => (some (.ret (.d (.int .i64 r0)), stk) : Rk')) o) (fun s r e => ?_) (fun s t r e ih => ?_) (v0, o8_s, o8_p) out hp
  · obtain ⟨v0, o8_s, o8_p⟩ := s
    exact o_text_Bad_1 (h := LW) (hT := rfl) (he_e_int32 := fun _ => rfl) (hz_e_int32 := fun l => LW.allsz E_int32 1 (fun a => ⟨rfl, rfl⟩) l) (he_e_uint8 := fun _ => rfl) (hz_e_uint8 := fun l => LW.allsz E_uint8 1 (fun a => ⟨rfl, rfl⟩) l) (c_unicode_utf8_DecodeRuneInString := p_unicode_utf8_DecodeRuneInString) (h_unicode_utf8_DecodeRuneInString := s_unicode_utf8_DecodeRuneInString)   stk m v0 o8_s o8_p e
  · obtain ⟨v0, o8_s, o8_p⟩ := s; obtain ⟨v0', o8_s', o8_p'⟩ := t
    exact (o_text_Bad_1 (h := LW) (hT := rfl) (he_e_int32 := fun _ => rfl) (hz_e_int32 := fun l => LW.allsz E_int32 1 (fun a => ⟨rfl, rfl⟩) l) (he_e_uint8 := fun _ => rfl) (hz_e_uint8 := fun l => LW.allsz E_uint8 1 (fun a => ⟨rfl, rfl⟩) l) (c_unicode_utf8_DecodeRuneInString := p_unicode_utf8_DecodeRuneInString) (h_unicode_utf8_DecodeRuneInString := s_unicode_utf8_DecodeRuneInString)   stk m v0 o8_s o8_p e).trans ih
noncomputable def p_text_Bad_0 (v0 : Str) : Option (Int) := b_text_Bad_0 Prims.real p_unicode_utf8_DecodeRuneInString p_text_Bad_1 v0
theorem s_text_Bad_0 (stk : Stk) (m : Nat) (v0 : Str) {out} (hp : p_text_Bad_0 v0 = some out) : atW table glob 19 true 0 [] ⟨[(0, (.d (.str v0)))], ⟨m, []⟩ :: stk⟩ = (fun r0 => (some (.ret (.d (.int .i64 r0)), stk) : Rk')) out := by
  exact o_text_Bad_0 (h := LW) (hT := rfl) (he_e_int32 := fun _ => rfl) (hz_e_int32 := fun l => LW.allsz E_int32 1 (fun a => ⟨rfl, rfl⟩) l) (he_e_uint8 := fun _ => rfl) (hz_e_uint8 := fun l => LW.allsz E_uint8 1 (fun a => ⟨rfl, rfl⟩) l) (c_unicode_utf8_DecodeRuneInString := p_unicode_utf8_DecodeRuneInString) (h_unicode_utf8_DecodeRuneInString := s_unicode_utf8_DecodeRuneInString) (l_1 := p_text_Bad_1) (h_l_1 := fun hp => s_text_Bad_1 stk m _ _ _ hp) stk m v0 hp
noncomputable def p_text_Bad : Str → Option (Int) := fun v0 => p_text_Bad_0 v0
theorem s_text_Bad : ∀ {a0 : Str} {r0 : Int}, p_text_Bad a0 = some r0 → ∀ stk, (sysW table glob).pcall 19 [(.d (.str a0))] stk = some (.d (.int .i64 r0)) := by
  intro _ _ hp stk
  exact pcall_of (T := table) (G := glob) (f := 19) rfl rfl (s_text_Bad_0 stk _ _ hp)
noncomputable def p_text_Right_0 (v0 : Str) : Option (Bool) := b_text_Right_0 Prims.real p_text_Bad  v0
theorem s_text_Right_0 (stk : Stk) (m : Nat) (v0 : Str) {out} (hp : p_text_Right_0 v0 = some out) : atW table glob 17 true 0 [] ⟨[(0, (.d (.str v0)))], ⟨m, []⟩ :: stk⟩ = (fun r0 => (some (.ret (.d (.bool r0)), stk) : Rk')) out := by
  exact o_text_Right_0 (h := LW) (hT := rfl) (he_e_int32 := fun _ => rfl) (hz_e_int32 := fun l => LW.allsz E_int32 1 (fun a => ⟨rfl, rfl⟩) l) (he_e_uint8 := fun _ => rfl) (hz_e_uint8 := fun l => LW.allsz E_uint8 1 (fun a => ⟨rfl, rfl⟩) l) (c_text_Bad := p_text_Bad) (h_text_Bad := s_text_Bad)   stk m v0 hp
noncomputable def p_text_Right : Str → Option (Bool) := fun v0 => p_text_Right_0 v0
theorem s_text_Right : ∀ {a0 : Str} {r0 : Bool}, p_text_Right a0 = some r0 → ∀ stk, (sysW table glob).pcall 17 [(.d (.str a0))] stk = some (.d (.bool r0)) := by
  intro _ _ hp stk
  exact pcall_of (T := table) (G := glob) (f := 17) rfl rfl (s_text_Right_0 stk _ _ hp)
noncomputable def p_cascadelaw01_awake_0  : Option (Bool) := b_cascadelaw01_awake_0 Prims.real p_text_Name p_text_Right p_text_Bad  
theorem s_cascadelaw01_awake_0 (stk : Stk) (m : Nat)  {out} (hp : p_cascadelaw01_awake_0  = some out) : atW table glob 14 true 0 [] ⟨[], ⟨m, []⟩ :: stk⟩ = (fun r0 => (some (.ret (.d (.bool r0)), stk) : Rk')) out := by
  exact o_cascadelaw01_awake_0 (h := LW) (hT := rfl) (he_e_int32 := fun _ => rfl) (hz_e_int32 := fun l => LW.allsz E_int32 1 (fun a => ⟨rfl, rfl⟩) l) (he_e_uint8 := fun _ => rfl) (hz_e_uint8 := fun l => LW.allsz E_uint8 1 (fun a => ⟨rfl, rfl⟩) l) (c_text_Name := p_text_Name) (c_text_Right := p_text_Right) (c_text_Bad := p_text_Bad) (h_text_Name := s_text_Name) (h_text_Right := s_text_Right) (h_text_Bad := s_text_Bad)   stk m  hp
noncomputable def p_cascadelaw01_awake : Option (Bool) := p_cascadelaw01_awake_0
theorem s_cascadelaw01_awake : ∀ {r0 : Bool}, p_cascadelaw01_awake  = some r0 → ∀ stk, (sysW table glob).pcall 14 [] stk = some (.d (.bool r0)) := by
  intro _ hp stk
  exact pcall_of (T := table) (G := glob) (f := 14) rfl rfl (s_cascadelaw01_awake_0 stk _  hp)
noncomputable def p_cascaderef01_Letter_0 (v0 : Int) : Option (Bool) := b_cascaderef01_Letter_0 Prims.real   v0
theorem s_cascaderef01_Letter_0 (stk : Stk) (m : Nat) (v0 : Int) {out} (hp : p_cascaderef01_Letter_0 v0 = some out) : atW table glob 35 true 0 [] ⟨[(0, (.d (.int .u8 v0)))], ⟨m, []⟩ :: stk⟩ = (fun r0 => (some (.ret (.d (.bool r0)), stk) : Rk')) out := by
  exact o_cascaderef01_Letter_0 (h := LW) (hT := rfl) (he_e_int32 := fun _ => rfl) (hz_e_int32 := fun l => LW.allsz E_int32 1 (fun a => ⟨rfl, rfl⟩) l) (he_e_uint8 := fun _ => rfl) (hz_e_uint8 := fun l => LW.allsz E_uint8 1 (fun a => ⟨rfl, rfl⟩) l)     stk m v0 hp
noncomputable def p_cascaderef01_Letter : Int → Option (Bool) := fun v0 => p_cascaderef01_Letter_0 v0
theorem s_cascaderef01_Letter : ∀ {a0 : Int} {r0 : Bool}, p_cascaderef01_Letter a0 = some r0 → ∀ stk, (sysW table glob).pcall 35 [(.d (.int .u8 a0))] stk = some (.d (.bool r0)) := by
  intro _ _ hp stk
  exact pcall_of (T := table) (G := glob) (f := 35) rfl rfl (s_cascaderef01_Letter_0 stk _ _ hp)
noncomputable def p_cascaderef01_Digit_0 (v0 : Int) : Option (Bool) := b_cascaderef01_Digit_0 Prims.real   v0
theorem s_cascaderef01_Digit_0 (stk : Stk) (m : Nat) (v0 : Int) {out} (hp : p_cascaderef01_Digit_0 v0 = some out) : atW table glob 36 true 0 [] ⟨[(0, (.d (.int .u8 v0)))], ⟨m, []⟩ :: stk⟩ = (fun r0 => (some (.ret (.d (.bool r0)), stk) : Rk')) out := by
  exact o_cascaderef01_Digit_0 (h := LW) (hT := rfl) (he_e_int32 := fun _ => rfl) (hz_e_int32 := fun l => LW.allsz E_int32 1 (fun a => ⟨rfl, rfl⟩) l) (he_e_uint8 := fun _ => rfl) (hz_e_uint8 := fun l => LW.allsz E_uint8 1 (fun a => ⟨rfl, rfl⟩) l)     stk m v0 hp
noncomputable def p_cascaderef01_Digit : Int → Option (Bool) := fun v0 => p_cascaderef01_Digit_0 v0
theorem s_cascaderef01_Digit : ∀ {a0 : Int} {r0 : Bool}, p_cascaderef01_Digit a0 = some r0 → ∀ stk, (sysW table glob).pcall 36 [(.d (.int .u8 a0))] stk = some (.d (.bool r0)) := by
  intro _ _ hp stk
  exact pcall_of (T := table) (G := glob) (f := 36) rfl rfl (s_cascaderef01_Digit_0 stk _ _ hp)
noncomputable def p_cascaderef01_Name_3 (v0 : Str) (v3 : Int) : Option ((Str × Int) ⊕ (Bool)) := b_cascaderef01_Name_3 Prims.real p_cascaderef01_Letter p_cascaderef01_Digit  v0 v3
theorem s_cascaderef01_Name_3 (stk : Stk) (m : Nat) (v0 : Str) (v3 : Int) {out} (hp : p_cascaderef01_Name_3 v0 v3 = some out) : atW table glob 16 true 3 [.lp ⟨1, [0, 3], []⟩, .blk 0, .sub ⟨4, [0], []⟩] ⟨[(0, (.d (.str v0))), (3, (.d (.int .i64 v3)))], ⟨m, []⟩ :: stk⟩ = (Sum.elim (fun (v0, v3) => atW table glob 16 true 1 [.lp ⟨1, [0, 3], []⟩, .blk 0, .sub ⟨4, [0], []⟩] ⟨[(0, (.d (.str v0))), (3, (.d (.int .i64 v3)))], ⟨m, []⟩ :: stk⟩) (fun r0 => (some (.ret (.d (.bool r0)), stk) : Rk'))) out := by
  exact o_cascaderef01_Name_3 (h := LW) (hT := rfl) (he_e_int32 := fun _ => rfl) (hz_e_int32 := fun l => LW.allsz E_int32 1 (fun a => ⟨rfl, rfl⟩) l) (he_e_uint8 := fun _ => rfl) (hz_e_uint8 := fun l => LW.allsz E_uint8 1 (fun a => ⟨rfl, rfl⟩) l) (c_cascaderef01_Letter := p_cascaderef01_Letter) (c_cascaderef01_Digit := p_cascaderef01_Digit) (h_cascaderef01_Letter := s_cascaderef01_Letter) (h_cascaderef01_Digit := s_cascaderef01_Digit)   stk m v0 v3 hp
noncomputable def p_cascaderef01_Name_1 (v0 : Str) (v3 : Int) : Option (Bool) := Prims.real.loop (fun (s : Str × Int) => match s with | (v0, v3) => b_cascaderef01_Name_1 Prims.real p_cascaderef01_Letter p_cascaderef01_Digit p_cascaderef01_Name_3 v0 v3) (v0, v3)
theorem u_cascaderef01_Name_1 (v0 : Str) (v3 : Int) : p_cascaderef01_Name_1 v0 v3 = match b_cascaderef01_Name_1 Prims.real p_cascaderef01_Letter p_cascaderef01_Digit p_cascaderef01_Name_3 v0 v3 with
    | some (.inl (v0', v3')) => p_cascaderef01_Name_1 v0' v3'
    | some (.inr r) => some r
    | none => none := by
  show Pr.loop _ _ = _
  rw [Pr.loop_eq]
  dsimp only
  generalize b_cascaderef01_Name_1 Prims.real p_cascaderef01_Letter p_cascaderef01_Digit p_cascaderef01_Name_3 v0 v3 = y
  cases y with
  | none => rfl
  | some y => cases y <;> rfl
theorem s_cascaderef01_Name_1 (stk : Stk) (m : Nat) (v0 : Str) (v3 : Int) {out} (hp : p_cascaderef01_Name_1 v0 v3 = some out) : atW table glob 16 true 1 [.lp ⟨1, [0, 3], []⟩, .blk 0, .sub ⟨4, [0], []⟩] ⟨[(0, (.d (.str v0))), (3, (.d (.int .i64 v3)))], ⟨m, []⟩ :: stk⟩ = (fun r0 => (some (.ret (.d (.bool r0)), stk) : Rk')) out := by
  refine LW.ind (fun (s : Str × Int) => match s with | (v0, v3) => b_cascaderef01_Name_1 Prims.real p_cascaderef01_Letter p_cascaderef01_Digit p_cascaderef01_Name_3 v0 v3) (fun (s : Str × Int) o => match s with | (v0, v3) => atW table glob 16 true 1 [.lp ⟨1, [0, 3], []⟩, .blk 0, .sub ⟨4, [0], []⟩] ⟨[(0, (.d (.str v0))), (3, (.d (.int .i64 v3)))], ⟨m, []⟩ :: stk⟩ = (fun r0 => (some (.ret (.d (.bool r0)), stk) : Rk')) o) (fun s r e => ?_) (fun s t r e ih => ?_) (v0, v3) out hp
  · obtain ⟨v0, v3⟩ := s
    exact o_cascaderef01_Name_1 (h := LW) (hT := rfl) (he_e_int32 := fun _ => rfl) (hz_e_int32 := fun l => LW.allsz E_int32 1 (fun a => ⟨rfl, rfl⟩) l) (he_e_uint8 := fun _ => rfl) (hz_e_uint8 := fun l => LW.allsz E_uint8 1 (fun a => ⟨rfl, rfl⟩) l) (c_cascaderef01_Letter := p_cascaderef01_Letter) (c_cascaderef01_Digit := p_cascaderef01_Digit) (h_cascaderef01_Letter := s_cascaderef01_Letter) (h_cascaderef01_Digit := s_cascaderef01_Digit) (l_3 := p_cascaderef01_Name_3) (h_l_3 := fun hp => s_cascaderef01_Name_3 stk m _ _ hp) stk m v0 v3 e
  · obtain ⟨v0, v3⟩ := s; obtain ⟨v0', v3'⟩ := t
    exact (o_cascaderef01_Name_1 (h := LW) (hT := rfl) (he_e_int32 := fun _ => rfl) (hz_e_int32 := fun l => LW.allsz E_int32 1 (fun a => ⟨rfl, rfl⟩) l) (he_e_uint8 := fun _ => rfl) (hz_e_uint8 := fun l => LW.allsz E_uint8 1 (fun a => ⟨rfl, rfl⟩) l) (c_cascaderef01_Letter := p_cascaderef01_Letter) (c_cascaderef01_Digit := p_cascaderef01_Digit) (h_cascaderef01_Letter := s_cascaderef01_Letter) (h_cascaderef01_Digit := s_cascaderef01_Digit) (l_3 := p_cascaderef01_Name_3) (h_l_3 := fun hp => s_cascaderef01_Name_3 stk m _ _ hp) stk m v0 v3 e).trans ih
noncomputable def p_cascaderef01_Name_0 (v0 : Str) : Option (Bool) := b_cascaderef01_Name_0 Prims.real p_cascaderef01_Letter p_cascaderef01_Digit p_cascaderef01_Name_1 v0
theorem s_cascaderef01_Name_0 (stk : Stk) (m : Nat) (v0 : Str) {out} (hp : p_cascaderef01_Name_0 v0 = some out) : atW table glob 16 true 0 [] ⟨[(0, (.d (.str v0)))], ⟨m, []⟩ :: stk⟩ = (fun r0 => (some (.ret (.d (.bool r0)), stk) : Rk')) out := by
  exact o_cascaderef01_Name_0 (h := LW) (hT := rfl) (he_e_int32 := fun _ => rfl) (hz_e_int32 := fun l => LW.allsz E_int32 1 (fun a => ⟨rfl, rfl⟩) l) (he_e_uint8 := fun _ => rfl) (hz_e_uint8 := fun l => LW.allsz E_uint8 1 (fun a => ⟨rfl, rfl⟩) l) (c_cascaderef01_Letter := p_cascaderef01_Letter) (c_cascaderef01_Digit := p_cascaderef01_Digit) (h_cascaderef01_Letter := s_cascaderef01_Letter) (h_cascaderef01_Digit := s_cascaderef01_Digit) (l_1 := p_cascaderef01_Name_1) (h_l_1 := fun hp => s_cascaderef01_Name_1 stk m _ _ hp) stk m v0 hp
noncomputable def p_cascaderef01_Name : Str → Option (Bool) := fun v0 => p_cascaderef01_Name_0 v0
theorem s_cascaderef01_Name : ∀ {a0 : Str} {r0 : Bool}, p_cascaderef01_Name a0 = some r0 → ∀ stk, (sysW table glob).pcall 16 [(.d (.str a0))] stk = some (.d (.bool r0)) := by
  intro _ _ hp stk
  exact pcall_of (T := table) (G := glob) (f := 16) rfl rfl (s_cascaderef01_Name_0 stk _ _ hp)
noncomputable def p_cascadelaw01_TextNames_0 (v0 : Str) : Option (Bool) := b_cascadelaw01_TextNames_0 Prims.real p_cascadelaw01_awake p_text_Name p_cascaderef01_Name p_text_Right  v0
theorem s_cascadelaw01_TextNames_0 (stk : Stk) (m : Nat) (v0 : Str) {out} (hp : p_cascadelaw01_TextNames_0 v0 = some out) : atW table glob 3 true 0 [] ⟨[(0, (.d (.str v0)))], ⟨m, []⟩ :: stk⟩ = (fun r0 => (some (.ret (.d (.bool r0)), stk) : Rk')) out := by
  exact o_cascadelaw01_TextNames_0 (h := LW) (hT := rfl) (he_e_int32 := fun _ => rfl) (hz_e_int32 := fun l => LW.allsz E_int32 1 (fun a => ⟨rfl, rfl⟩) l) (he_e_uint8 := fun _ => rfl) (hz_e_uint8 := fun l => LW.allsz E_uint8 1 (fun a => ⟨rfl, rfl⟩) l) (c_cascadelaw01_awake := p_cascadelaw01_awake) (c_text_Name := p_text_Name) (c_cascaderef01_Name := p_cascaderef01_Name) (c_text_Right := p_text_Right) (h_cascadelaw01_awake := s_cascadelaw01_awake) (h_text_Name := s_text_Name) (h_cascaderef01_Name := s_cascaderef01_Name) (h_text_Right := s_text_Right)   stk m v0 hp
noncomputable def p_cascadelaw01_TextNames : Str → Option (Bool) := fun v0 => p_cascadelaw01_TextNames_0 v0
theorem s_cascadelaw01_TextNames : ∀ {a0 : Str} {r0 : Bool}, p_cascadelaw01_TextNames a0 = some r0 → ∀ stk, (sysW table glob).pcall 3 [(.d (.str a0))] stk = some (.d (.bool r0)) := by
  intro _ _ hp stk
  exact pcall_of (T := table) (G := glob) (f := 3) rfl rfl (s_cascadelaw01_TextNames_0 stk _ _ hp)
noncomputable def p_cascaderef01_Size_11 (v7 : Int) (v8 : Int) : Option (Int × Int) := b_cascaderef01_Size_11 Prims.real   v7 v8
theorem s_cascaderef01_Size_11 (stk : Stk) (m : Nat) (v7 : Int) (v8 : Int) {out} (hp : p_cascaderef01_Size_11 v7 v8 = some out) : atW table glob 37 true 11 [] ⟨[(7, (.d (.int .i64 v7))), (8, (.d (.int .i64 v8)))], ⟨m, []⟩ :: stk⟩ = (fun (r0, r1) => (some (.ret (.d (.tup [(.int .i64 r0), (.int .i32 r1)])), stk) : Rk')) out := by
  exact o_cascaderef01_Size_11 (h := LW) (hT := rfl) (he_e_int32 := fun _ => rfl) (hz_e_int32 := fun l => LW.allsz E_int32 1 (fun a => ⟨rfl, rfl⟩) l) (he_e_uint8 := fun _ => rfl) (hz_e_uint8 := fun l => LW.allsz E_uint8 1 (fun a => ⟨rfl, rfl⟩) l)     stk m v7 v8 hp
noncomputable def p_cascaderef01_Size_6 (v0 : Str) (v1 : Int) (v7 : Int) (v8 : Int) (v9 : Int) (v10 : Int) : Option (Int × Int) := Prims.real.loop (fun (s : Str × Int × Int × Int × Int × Int) => match s with | (v0, v1, v7, v8, v9, v10) => b_cascaderef01_Size_6 Prims.real  p_cascaderef01_Size_11 v0 v1 v7 v8 v9 v10) (v0, v1, v7, v8, v9, v10)
theorem u_cascaderef01_Size_6 (v0 : Str) (v1 : Int) (v7 : Int) (v8 : Int) (v9 : Int) (v10 : Int) : p_cascaderef01_Size_6 v0 v1 v7 v8 v9 v10 = match b_cascaderef01_Size_6 Prims.real  p_cascaderef01_Size_11 v0 v1 v7 v8 v9 v10 with
    | some (.inl (v0', v1', v7', v8', v9', v10')) => p_cascaderef01_Size_6 v0' v1' v7' v8' v9' v10'
    | some (.inr r) => some r
    | none => none := by
  show Pr.loop _ _ = _
  rw [Pr.loop_eq]
  dsimp only
  generalize b_cascaderef01_Size_6 Prims.real  p_cascaderef01_Size_11 v0 v1 v7 v8 v9 v10 = y
  cases y with
  | none => rfl
  | some y => cases y <;> rfl
theorem s_cascaderef01_Size_6 (stk : Stk) (m : Nat) (v0 : Str) (v1 : Int) (v7 : Int) (v8 : Int) (v9 : Int) (v10 : Int) {out} (hp : p_cascaderef01_Size_6 v0 v1 v7 v8 v9 v10 = some out) : atW table glob 37 true 6 [.lp ⟨6, [0, 1, 7, 8, 9, 10], []⟩, .blk 0, .sub ⟨10, [7, 8, 9], []⟩] ⟨[(0, (.d (.str v0))), (1, (.d (.int .i64 v1))), (7, (.d (.int .i64 v7))), (8, (.d (.int .i64 v8))), (9, (.d (.int .i64 v9))), (10, (.d (.int .i64 v10)))], ⟨m, []⟩ :: stk⟩ = (fun (r0, r1) => (some (.ret (.d (.tup [(.int .i64 r0), (.int .i32 r1)])), stk) : Rk')) out := by
  refine LW.ind (fun (s : Str × Int × Int × Int × Int × Int) => match s with | (v0, v1, v7, v8, v9, v10) => b_cascaderef01_Size_6 Prims.real  p_cascaderef01_Size_11 v0 v1 v7 v8 v9 v10) (fun (s : Str × Int × Int × Int × Int × Int) o => match s with | (v0, v1, v7, v8, v9, v10) => atW table glob 37 true 6 [.lp ⟨6, [0, 1, 7, 8, 9, 10], []⟩, .blk 0, .sub ⟨10, [7, 8, 9], []⟩] ⟨[(0, (.d (.str v0))), (1, (.d (.int .i64 v1))), (7, (.d (.int .i64 v7))), (8, (.d (.int .i64 v8))), (9, (.d (.int .i64 v9))), (10, (.d (.int .i64 v10)))], ⟨m, []⟩ :: stk⟩ = (fun (r0, r1) => (some (.ret (.d (.tup [(.int .i64 r0), (.int .i32 r1)])), stk) : Rk')) o) (fun s r e => ?_) (fun s t r e ih => ?_) (v0, v1, v7, v8, v9, v10) out hp
  · obtain ⟨v0, v1, v7, v8, v9, v10⟩ := s
    exact o_cascaderef01_Size_6 (h := LW) (hT := rfl) (he_e_int32 := fun _ => rfl) (hz_e_int32 := fun l => LW.allsz E_int32 1 (fun a => ⟨rfl, rfl⟩) l) (he_e_uint8 := fun _ => rfl) (hz_e_uint8 := fun l => LW.allsz E_uint8 1 (fun a => ⟨rfl, rfl⟩) l)   (l_11 := p_cascaderef01_Size_11) (h_l_11 := fun hp => s_cascaderef01_Size_11 stk m _ _ hp) stk m v0 v1 v7 v8 v9 v10 e
  · obtain ⟨v0, v1, v7, v8, v9, v10⟩ := s; obtain ⟨v0', v1', v7', v8', v9', v10'⟩ := t
    exact (o_cascaderef01_Size_6 (h := LW) (hT := rfl) (he_e_int32 := fun _ => rfl) (hz_e_int32 := fun l => LW.allsz E_int32 1 (fun a => ⟨rfl, rfl⟩) l) (he_e_uint8 := fun _ => rfl) (hz_e_uint8 := fun l => LW.allsz E_uint8 1 (fun a => ⟨rfl, rfl⟩) l)   (l_11 := p_cascaderef01_Size_11) (h_l_11 := fun hp => s_cascaderef01_Size_11 stk m _ _ hp) stk m v0 v1 v7 v8 v9 v10 e).trans ih
noncomputable def p_cascaderef01_Size_4 (v0 : Str) (v1 : Int) (v7 : Int) (v8 : Int) (v9 : Int) : Option (Int × Int) := b_cascaderef01_Size_4 Prims.real  p_cascaderef01_Size_6 v0 v1 v7 v8 v9
theorem s_cascaderef01_Size_4 (stk : Stk) (m : Nat) (v0 : Str) (v1 : Int) (v7 : Int) (v8 : Int) (v9 : Int) {out} (hp : p_cascaderef01_Size_4 v0 v1 v7 v8 v9 = some out) : atW table glob 37 true 4 [] ⟨[(0, (.d (.str v0))), (1, (.d (.int .i64 v1))), (7, (.d (.int .i64 v7))), (8, (.d (.int .i64 v8))), (9, (.d (.int .i64 v9)))], ⟨m, []⟩ :: stk⟩ = (fun (r0, r1) => (some (.ret (.d (.tup [(.int .i64 r0), (.int .i32 r1)])), stk) : Rk')) out := by
  exact o_cascaderef01_Size_4 (h := LW) (hT := rfl) (he_e_int32 := fun _ => rfl) (hz_e_int32 := fun l => LW.allsz E_int32 1 (fun a => ⟨rfl, rfl⟩) l) (he_e_uint8 := fun _ => rfl) (hz_e_uint8 := fun l => LW.allsz E_uint8 1 (fun a => ⟨rfl, rfl⟩) l)   (l_6 := p_cascaderef01_Size_6) (h_l_6 := fun hp => s_cascaderef01_Size_6 stk m _ _ _ _ _ _ hp) stk m v0 v1 v7 v8 v9 hp
noncomputable def p_cascaderef01_Size_3 (v0 : Str) (v1 : Int) (v6 : Int) (v7 : Int) (v8 : Int) (v9 : Int) : Option (Int × Int) := b_cascaderef01_Size_3 Prims.real  p_cascaderef01_Size_4 v0 v1 v6 v7 v8 v9
theorem s_cascaderef01_Size_3 (stk : Stk) (m : Nat) (v0 : Str) (v1 : Int) (v6 : Int) (v7 : Int) (v8 : Int) (v9 : Int) {out} (hp : p_cascaderef01_Size_3 v0 v1 v6 v7 v8 v9 = some out) : atW table glob 37 true 3 [] ⟨[(0, (.d (.str v0))), (1, (.d (.int .i64 v1))), (6, (.d (.int .i64 v6))), (7, (.d (.int .i64 v7))), (8, (.d (.int .i64 v8))), (9, (.d (.int .i64 v9)))], ⟨m, []⟩ :: stk⟩ = (fun (r0, r1) => (some (.ret (.d (.tup [(.int .i64 r0), (.int .i32 r1)])), stk) : Rk')) out := by
  exact o_cascaderef01_Size_3 (h := LW) (hT := rfl) (he_e_int32 := fun _ => rfl) (hz_e_int32 := fun l => LW.allsz E_int32 1 (fun a => ⟨rfl, rfl⟩) l) (he_e_uint8 := fun _ => rfl) (hz_e_uint8 := fun l => LW.allsz E_uint8 1 (fun a => ⟨rfl, rfl⟩) l)   (l_4 := p_cascaderef01_Size_4) (h_l_4 := fun hp => s_cascaderef01_Size_4 stk m _ _ _ _ _ hp) stk m v0 v1 v6 v7 v8 v9 hp
noncomputable def p_cascaderef01_Size_2 (v0 : Str) (v1 : Int) (v6 : Int) (v7 : Int) (v8 : Int) (v9 : Int) : Option (Int × Int) := b_cascaderef01_Size_2 Prims.real  p_cascaderef01_Size_3 v0 v1 v6 v7 v8 v9
theorem s_cascaderef01_Size_2 (stk : Stk) (m : Nat) (v0 : Str) (v1 : Int) (v6 : Int) (v7 : Int) (v8 : Int) (v9 : Int) {out} (hp : p_cascaderef01_Size_2 v0 v1 v6 v7 v8 v9 = some out) : atW table glob 37 true 2 [] ⟨[(0, (.d (.str v0))), (1, (.d (.int .i64 v1))), (6, (.d (.int .i64 v6))), (7, (.d (.int .i64 v7))), (8, (.d (.int .i64 v8))), (9, (.d (.int .i64 v9)))], ⟨m, []⟩ :: stk⟩ = (fun (r0, r1) => (some (.ret (.d (.tup [(.int .i64 r0), (.int .i32 r1)])), stk) : Rk')) out := by
  exact o_cascaderef01_Size_2 (h := LW) (hT := rfl) (he_e_int32 := fun _ => rfl) (hz_e_int32 := fun l => LW.allsz E_int32 1 (fun a => ⟨rfl, rfl⟩) l) (he_e_uint8 := fun _ => rfl) (hz_e_uint8 := fun l => LW.allsz E_uint8 1 (fun a => ⟨rfl, rfl⟩) l)   (l_3 := p_cascaderef01_Size_3) (h_l_3 := fun hp => s_cascaderef01_Size_3 stk m _ _ _ _ _ _ hp) stk m v0 v1 v6 v7 v8 v9 hp
noncomputable def p_cascaderef01_Size_0 (v0 : Str) (v1 : Int) : Option (Int × Int) := b_cascaderef01_Size_0 Prims.real  p_cascaderef01_Size_2 v0 v1
theorem s_cascaderef01_Size_0 (stk : Stk) (m : Nat) (v0 : Str) (v1 : Int) {out} (hp : p_cascaderef01_Size_0 v0 v1 = some out) : atW table glob 37 true 0 [] ⟨[(0, (.d (.str v0))), (1, (.d (.int .i64 v1)))], ⟨m, []⟩ :: stk⟩ = (fun (r0, r1) => (some (.ret (.d (.tup [(.int .i64 r0), (.int .i32 r1)])), stk) : Rk')) out := by
  exact o_cascaderef01_Size_0 (h := LW) (hT := rfl) (he_e_int32 := fun _ => rfl) (hz_e_int32 := fun l => LW.allsz E_int32 1 (fun a => ⟨rfl, rfl⟩) l) (he_e_uint8 := fun _ => rfl) (hz_e_uint8 := fun l => LW.allsz E_uint8 1 (fun a => ⟨rfl, rfl⟩) l)   (l_2 := p_cascaderef01_Size_2) (h_l_2 := fun hp => s_cascaderef01_Size_2 stk m _ _ _ _ _ _ hp) stk m v0 v1 hp
noncomputable def p_cascaderef01_Size : Str → Int → Option (Int × Int) := fun v0 v1 => p_cascaderef01_Size_0 v0 v1
theorem s_cascaderef01_Size : ∀ {a0 : Str} {a1 : Int} {r0 : Int} {r1 : Int}, p_cascaderef01_Size a0 a1 = some (r0, r1) → ∀ stk, (sysW table glob).pcall 37 [(.d (.str a0)), (.d (.int .i64 a1))] stk = some (.d (.tup [(.int .i64 r0), (.int .i32 r1)])) := by
  intro _ _ _ _ hp stk
  exact pcall_of (T := table) (G := glob) (f := 37) rfl rfl (s_cascaderef01_Size_0 stk _ _ _ hp)
noncomputable def p_cascaderef01_Bad_1 (v0 : Str) (v3 : Int) : Option (Int) := Prims.real.loop (fun (s : Str × Int) => match s with | (v0, v3) => b_cascaderef01_Bad_1 Prims.real p_cascaderef01_Size  v0 v3) (v0, v3)
theorem u_cascaderef01_Bad_1 (v0 : Str) (v3 : Int) : p_cascaderef01_Bad_1 v0 v3 = match b_cascaderef01_Bad_1 Prims.real p_cascaderef01_Size  v0 v3 with
    | some (.inl (v0', v3')) => p_cascaderef01_Bad_1 v0' v3'
    | some (.inr r) => some r
    | none => none := by
  show Pr.loop _ _ = _
  rw [Pr.loop_eq]
  dsimp only
  generalize b_cascaderef01_Bad_1 Prims.real p_cascaderef01_Size  v0 v3 = y
  cases y with
  | none => rfl
  | some y => cases y <;> rfl
theorem s_cascaderef01_Bad_1 (stk : Stk) (m : Nat) (v0 : Str) (v3 : Int) {out} (hp : p_cascaderef01_Bad_1 v0 v3 = some out) : atW table glob 18 true 1 [.lp ⟨1, [0, 3], []⟩, .blk 0, .sub ⟨4, [], []⟩] ⟨[(0, (.d (.str v0))), (3, (.d (.int .i64 v3)))], ⟨m, []⟩ :: stk⟩ = (fun r0 => (some (.ret (.d (.int .i64 r0)), stk) : Rk')) out := by
  refine LW.ind (fun (s : Str × Int) => match s with | (v0, v3) => b_cascaderef01_Bad_1 Prims.real p_cascaderef01_Size  v0 v3) (fun (s : Str × Int) o => match s with | (v0, v3) => atW table glob 18 true 1 [.lp ⟨1, [0, 3], []⟩, .blk 0, .sub ⟨4, [], []⟩] ⟨[(0, (.d (.str v0))), (3, (.d (.int .i64 v3)))], ⟨m, []⟩ :: stk⟩ = (fun r0 => (some (.ret (.d (.int .i64 r0)), stk) : Rk')) o) (fun s r e => ?_) (fun s t r e ih => ?_) (v0, v3) out hp
  · obtain ⟨v0, v3⟩ := s
    exact o_cascaderef01_Bad_1 (h := LW) (hT := rfl) (he_e_int32 := fun _ => rfl) (hz_e_int32 := fun l => LW.allsz E_int32 1 (fun a => ⟨rfl, rfl⟩) l) (he_e_uint8 := fun _ => rfl) (hz_e_uint8 := fun l => LW.allsz E_uint8 1 (fun a => ⟨rfl, rfl⟩) l) (c_cascaderef01_Size := p_cascaderef01_Size) (h_cascaderef01_Size := s_cascaderef01_Size)   stk m v0 v3 e
  · obtain ⟨v0, v3⟩ := s; obtain ⟨v0', v3'⟩ := t
    exact (o_cascaderef01_Bad_1 (h := LW) (hT := rfl) (he_e_int32 := fun _ => rfl) (hz_e_int32 := fun l => LW.allsz E_int32 1 (fun a => ⟨rfl, rfl⟩) l) (he_e_uint8 := fun _ => rfl) (hz_e_uint8 := fun l => LW.allsz E_uint8 1 (fun a => ⟨rfl, rfl⟩) l) (c_cascaderef01_Size := p_cascaderef01_Size) (h_cascaderef01_Size := s_cascaderef01_Size)   stk m v0 v3 e).trans ih
noncomputable def p_cascaderef01_Bad_0 (v0 : Str) : Option (Int) := b_cascaderef01_Bad_0 Prims.real p_cascaderef01_Size p_cascaderef01_Bad_1 v0
theorem s_cascaderef01_Bad_0 (stk : Stk) (m : Nat) (v0 : Str) {out} (hp : p_cascaderef01_Bad_0 v0 = some out) : atW table glob 18 true 0 [] ⟨[(0, (.d (.str v0)))], ⟨m, []⟩ :: stk⟩ = (fun r0 => (some (.ret (.d (.int .i64 r0)), stk) : Rk')) out := by
  exact o_cascaderef01_Bad_0 (h := LW) (hT := rfl) (he_e_int32 := fun _ => rfl) (hz_e_int32 := fun l => LW.allsz E_int32 1 (fun a => ⟨rfl, rfl⟩) l) (he_e_uint8 := fun _ => rfl) (hz_e_uint8 := fun l => LW.allsz E_uint8 1 (fun a => ⟨rfl, rfl⟩) l) (c_cascaderef01_Size := p_cascaderef01_Size) (h_cascaderef01_Size := s_cascaderef01_Size) (l_1 := p_cascaderef01_Bad_1) (h_l_1 := fun hp => s_cascaderef01_Bad_1 stk m _ _ hp) stk m v0 hp
noncomputable def p_cascaderef01_Bad : Str → Option (Int) := fun v0 => p_cascaderef01_Bad_0 v0
theorem s_cascaderef01_Bad : ∀ {a0 : Str} {r0 : Int}, p_cascaderef01_Bad a0 = some r0 → ∀ stk, (sysW table glob).pcall 18 [(.d (.str a0))] stk = some (.d (.int .i64 r0)) := by
  intro _ _ hp stk
  exact pcall_of (T := table) (G := glob) (f := 18) rfl rfl (s_cascaderef01_Bad_0 stk _ _ hp)
noncomputable def p_cascadelaw01_same_2 (v0 : (List Int)) (v1 : (List Int)) (v5 : Int) : Option (Bool) := Prims.real.loop (fun (s : (List Int) × (List Int) × Int) => match s with | (v0, v1, v5) => b_cascadelaw01_same_2 Prims.real   v0 v1 v5) (v0, v1, v5)
theorem u_cascadelaw01_same_2 (v0 : (List Int)) (v1 : (List Int)) (v5 : Int) : p_cascadelaw01_same_2 v0 v1 v5 = match b_cascadelaw01_same_2 Prims.real   v0 v1 v5 with
    | some (.inl (v0', v1', v5')) => p_cascadelaw01_same_2 v0' v1' v5'
    | some (.inr r) => some r
    | none => none := by
  show Pr.loop _ _ = _
  rw [Pr.loop_eq]
  dsimp only
  generalize b_cascadelaw01_same_2 Prims.real   v0 v1 v5 = y
  cases y with
  | none => rfl
  | some y => cases y <;> rfl
theorem s_cascadelaw01_same_2 (stk : Stk) (m : Nat) (v0 : (List Int)) (v1 : (List Int)) (v5 : Int) {out} (hp : p_cascadelaw01_same_2 v0 v1 v5 = some out) : atW table glob 20 true 2 [.lp ⟨2, [0, 1, 5], []⟩, .blk 0, .sub ⟨5, [], []⟩] ⟨[(0, (.d (.sl (List.map E_int32 v0)))), (1, (.d (.sl (List.map E_int32 v1)))), (5, (.d (.int .i64 v5)))], ⟨m, []⟩ :: stk⟩ = (fun r0 => (some (.ret (.d (.bool r0)), stk) : Rk')) out := by
  refine LW.ind (fun (s : (List Int) × (List Int) × Int) => match s with | (v0, v1, v5) => b_cascadelaw01_same_2 Prims.real   v0 v1 v5) (fun (s : (List Int) × (List Int) × Int) o => match s with | (v0, v1, v5) => atW table glob 20 true 2 [.lp ⟨2, [0, 1, 5], []⟩, .blk 0, .sub ⟨5, [], []⟩] ⟨[(0, (.d (.sl (List.map E_int32 v0)))), (1, (.d (.sl (List.map E_int32 v1)))), (5, (.d (.int .i64 v5)))], ⟨m, []⟩ :: stk⟩ = (fun r0 => (some (.ret (.d (.bool r0)), stk) : Rk')) o) (fun s r e => ?_) (fun s t r e ih => ?_) (v0, v1, v5) out hp
  · obtain ⟨v0, v1, v5⟩ := s
    exact o_cascadelaw01_same_2 (h := LW) (hT := rfl) (he_e_int32 := fun _ => rfl) (hz_e_int32 := fun l => LW.allsz E_int32 1 (fun a => ⟨rfl, rfl⟩) l) (he_e_uint8 := fun _ => rfl) (hz_e_uint8 := fun l => LW.allsz E_uint8 1 (fun a => ⟨rfl, rfl⟩) l)     stk m v0 v1 v5 e
  · obtain ⟨v0, v1, v5⟩ := s; obtain ⟨v0', v1', v5'⟩ := t
    exact (o_cascadelaw01_same_2 (h := LW) (hT := rfl) (he_e_int32 := fun _ => rfl) (hz_e_int32 := fun l => LW.allsz E_int32 1 (fun a => ⟨rfl, rfl⟩) l) (he_e_uint8 := fun _ => rfl) (hz_e_uint8 := fun l => LW.allsz E_uint8 1 (fun a => ⟨rfl, rfl⟩) l)     stk m v0 v1 v5 e).trans ih
noncomputable def p_cascadelaw01_same_0 (v0 : (List Int)) (v1 : (List Int)) : Option (Bool) := b_cascadelaw01_same_0 Prims.real  p_cascadelaw01_same_2 v0 v1
theorem s_cascadelaw01_same_0 (stk : Stk) (m : Nat) (v0 : (List Int)) (v1 : (List Int)) {out} (hp : p_cascadelaw01_same_0 v0 v1 = some out) : atW table glob 20 true 0 [] ⟨[(0, (.d (.sl (List.map E_int32 v0)))), (1, (.d (.sl (List.map E_int32 v1))))], ⟨m, []⟩ :: stk⟩ = (fun r0 => (some (.ret (.d (.bool r0)), stk) : Rk')) out := by
  exact o_cascadelaw01_same_0 (h := LW) (hT := rfl) (he_e_int32 := fun _ => rfl) (hz_e_int32 := fun l => LW.allsz E_int32 1 (fun a => ⟨rfl, rfl⟩) l) (he_e_uint8 := fun _ => rfl) (hz_e_uint8 := fun l => LW.allsz E_uint8 1 (fun a => ⟨rfl, rfl⟩) l)   (l_2 := p_cascadelaw01_same_2) (h_l_2 := fun hp => s_cascadelaw01_same_2 stk m _ _ _ hp) stk m v0 v1 hp
noncomputable def p_cascadelaw01_same : (List Int) → (List Int) → Option (Bool) := fun v0 v1 => p_cascadelaw01_same_0 v0 v1
theorem s_cascadelaw01_same : ∀ {a0 : (List Int)} {a1 : (List Int)} {r0 : Bool}, p_cascadelaw01_same a0 a1 = some r0 → ∀ stk, (sysW table glob).pcall 20 [(.d (.sl (List.map E_int32 a0))), (.d (.sl (List.map E_int32 a1)))] stk = some (.d (.bool r0)) := by
  intro _ _ _ hp stk
  exact pcall_of (T := table) (G := glob) (f := 20) rfl rfl (s_cascadelaw01_same_0 stk _ _ _ hp)
noncomputable def p_text_Runes_2 (o3_g : Nat) (o3 : (List Int)) (o10_s : Str) (o10_p : Nat) : Option ((List Int)) := Prims.real.loop (fun (s : Nat × (List Int) × Str × Nat) => match s with | (o3_g, o3, o10_s, o10_p) => b_text_Runes_2 Prims.real p_text_Right  o3_g o3 o10_s o10_p) (o3_g, o3, o10_s, o10_p)
theorem u_text_Runes_2 (o3_g : Nat) (o3 : (List Int)) (o10_s : Str) (o10_p : Nat) : p_text_Runes_2 o3_g o3 o10_s o10_p = match b_text_Runes_2 Prims.real p_text_Right  o3_g o3 o10_s o10_p with
    | some (.inl (o3_g', o3', o10_s', o10_p')) => p_text_Runes_2 o3_g' o3' o10_s' o10_p'
    | some (.inr r) => some r
    | none => none := by
  show Pr.loop _ _ = _
  rw [Pr.loop_eq]
  dsimp only
  generalize b_text_Runes_2 Prims.real p_text_Right  o3_g o3 o10_s o10_p = y
  cases y with
  | none => rfl
  | some y => cases y <;> rfl
theorem s_text_Runes_2 (stk : Stk) (m : Nat) (o3_g : Nat) (o3 : (List Int)) (o10_s : Str) (o10_p : Nat) {out} (hp : p_text_Runes_2 o3_g o3 o10_s o10_p = some out) : atW table glob 21 true 2 [.lp ⟨2, [3, 10], [[3], [10]]⟩, .blk 0, .sub ⟨4, [3], [[3]]⟩] ⟨[(3, (.msl ⟨m, [3]⟩ o3_g 0 (List.length (List.map E_int32 o3)))), (10, (.ref ⟨m, [10]⟩ 0))], ⟨m, [([3], (.arr o3_g 1 (List.map E_int32 o3))), ([10], (.siter o10_s o10_p))]⟩ :: stk⟩ = (fun r0 => (some (.ret (.d (.sl (List.map E_int32 r0))), stk) : Rk')) out := by
  refine LW.ind (fun (s : Nat × (List Int) × Str × Nat) => match s with | (o3_g, o3, o10_s, o10_p) => b_text_Runes_2 Prims.real p_text_Right  o3_g o3 o10_s o10_p) (fun (s : Nat × (List Int) × Str × Nat) o => match s with | (o3_g, o3, o10_s, o10_p) => atW table glob 21 true 2 [.lp ⟨2, [3, 10], [[3], [10]]⟩, .blk 0, .sub ⟨4, [3], [[3]]⟩] ⟨[(3, (.msl ⟨m, [3]⟩ o3_g 0 (List.length (List.map E_int32 o3)))), (10, (.ref ⟨m, [10]⟩ 0))], ⟨m, [([3], (.arr o3_g 1 (List.map E_int32 o3))), ([10], (.siter o10_s o10_p))]⟩ :: stk⟩ = (fun r0 => (some (.ret (.d (.sl (List.map E_int32 r0))), stk) : Rk')) o) (fun s r e => ?_) (fun s t r e ih => ?_) (o3_g, o3, o10_s, o10_p) out hp
  · obtain ⟨o3_g, o3, o10_s, o10_p⟩ := s
    exact o_text_Runes_2 (h := LW) (hT := rfl) (he_e_int32 := fun _ => rfl) (hz_e_int32 := fun l => LW.allsz E_int32 1 (fun a => ⟨rfl, rfl⟩) l) (he_e_uint8 := fun _ => rfl) (hz_e_uint8 := fun l => LW.allsz E_uint8 1 (fun a => ⟨rfl, rfl⟩) l) (c_text_Right := p_text_Right) (h_text_Right := s_text_Right)   stk m o3_g o3 o10_s o10_p e
  · obtain ⟨o3_g, o3, o10_s, o10_p⟩ := s; obtain ⟨o3_g', o3', o10_s', o10_p'⟩ := t
    exact (o_text_Runes_2 (h := LW) (hT := rfl) (he_e_int32 := fun _ => rfl) (hz_e_int32 := fun l => LW.allsz E_int32 1 (fun a => ⟨rfl, rfl⟩) l) (he_e_uint8 := fun _ => rfl) (hz_e_uint8 := fun l => LW.allsz E_uint8 1 (fun a => ⟨rfl, rfl⟩) l) (c_text_Right := p_text_Right) (h_text_Right := s_text_Right)   stk m o3_g o3 o10_s o10_p e).trans ih
noncomputable def p_text_Runes_0 (v0 : Str) : Option ((List Int)) := b_text_Runes_0 Prims.real p_text_Right p_text_Runes_2 v0
theorem s_text_Runes_0 (stk : Stk) (m : Nat) (v0 : Str) {out} (hp : p_text_Runes_0 v0 = some out) : atW table glob 21 true 0 [] ⟨[(0, (.d (.str v0)))], ⟨m, []⟩ :: stk⟩ = (fun r0 => (some (.ret (.d (.sl (List.map E_int32 r0))), stk) : Rk')) out := by
  exact o_text_Runes_0 (h := LW) (hT := rfl) (he_e_int32 := fun _ => rfl) (hz_e_int32 := fun l => LW.allsz E_int32 1 (fun a => ⟨rfl, rfl⟩) l) (he_e_uint8 := fun _ => rfl) (hz_e_uint8 := fun l => LW.allsz E_uint8 1 (fun a => ⟨rfl, rfl⟩) l) (c_text_Right := p_text_Right) (h_text_Right := s_text_Right) (l_2 := p_text_Runes_2) (h_l_2 := fun hp => s_text_Runes_2 stk m _ _ _ _ hp) stk m v0 hp
noncomputable def p_text_Runes : Str → Option ((List Int)) := fun v0 => p_text_Runes_0 v0
theorem s_text_Runes : ∀ {a0 : Str} {r0 : (List Int)}, p_text_Runes a0 = some r0 → ∀ stk, (sysW table glob).pcall 21 [(.d (.str a0))] stk = some (.d (.sl (List.map E_int32 r0))) := by
  intro _ _ hp stk
  exact pcall_of (T := table) (G := glob) (f := 21) rfl rfl (s_text_Runes_0 stk _ _ hp)
noncomputable def p_cascaderef01_Right_0 (v0 : Str) : Option (Bool) := b_cascaderef01_Right_0 Prims.real p_cascaderef01_Bad  v0
theorem s_cascaderef01_Right_0 (stk : Stk) (m : Nat) (v0 : Str) {out} (hp : p_cascaderef01_Right_0 v0 = some out) : atW table glob 30 true 0 [] ⟨[(0, (.d (.str v0)))], ⟨m, []⟩ :: stk⟩ = (fun r0 => (some (.ret (.d (.bool r0)), stk) : Rk')) out := by
  exact o_cascaderef01_Right_0 (h := LW) (hT := rfl) (he_e_int32 := fun _ => rfl) (hz_e_int32 := fun l => LW.allsz E_int32 1 (fun a => ⟨rfl, rfl⟩) l) (he_e_uint8 := fun _ => rfl) (hz_e_uint8 := fun l => LW.allsz E_uint8 1 (fun a => ⟨rfl, rfl⟩) l) (c_cascaderef01_Bad := p_cascaderef01_Bad) (h_cascaderef01_Bad := s_cascaderef01_Bad)   stk m v0 hp
noncomputable def p_cascaderef01_Right : Str → Option (Bool) := fun v0 => p_cascaderef01_Right_0 v0
theorem s_cascaderef01_Right : ∀ {a0 : Str} {r0 : Bool}, p_cascaderef01_Right a0 = some r0 → ∀ stk, (sysW table glob).pcall 30 [(.d (.str a0))] stk = some (.d (.bool r0)) := by
  intro _ _ hp stk
  exact pcall_of (T := table) (G := glob) (f := 30) rfl rfl (s_cascaderef01_Right_0 stk _ _ hp)
noncomputable def p_cascaderef01_Runes_2 (v0 : Str) (o3_g : Nat) (o3 : (List Int)) (v4 : Int) : Option ((List Int)) := Prims.real.loop (fun (s : Str × Nat × (List Int) × Int) => match s with | (v0, o3_g, o3, v4) => b_cascaderef01_Runes_2 Prims.real p_cascaderef01_Right p_cascaderef01_Size  v0 o3_g o3 v4) (v0, o3_g, o3, v4)
theorem u_cascaderef01_Runes_2 (v0 : Str) (o3_g : Nat) (o3 : (List Int)) (v4 : Int) : p_cascaderef01_Runes_2 v0 o3_g o3 v4 = match b_cascaderef01_Runes_2 Prims.real p_cascaderef01_Right p_cascaderef01_Size  v0 o3_g o3 v4 with
    | some (.inl (v0', o3_g', o3', v4')) => p_cascaderef01_Runes_2 v0' o3_g' o3' v4'
    | some (.inr r) => some r
    | none => none := by
  show Pr.loop _ _ = _
  rw [Pr.loop_eq]
  dsimp only
  generalize b_cascaderef01_Runes_2 Prims.real p_cascaderef01_Right p_cascaderef01_Size  v0 o3_g o3 v4 = y
  cases y with
  | none => rfl
  | some y => cases y <;> rfl
theorem s_cascaderef01_Runes_2 (stk : Stk) (m : Nat) (v0 : Str) (o3_g : Nat) (o3 : (List Int)) (v4 : Int) {out} (hp : p_cascaderef01_Runes_2 v0 o3_g o3 v4 = some out) : atW table glob 22 true 2 [.lp ⟨2, [0, 3, 4], [[3]]⟩, .blk 0, .sub ⟨4, [3], [[3]]⟩] ⟨[(0, (.d (.str v0))), (3, (.msl ⟨m, [3]⟩ o3_g 0 (List.length (List.map E_int32 o3)))), (4, (.d (.int .i64 v4)))], ⟨m, [([3], (.arr o3_g 1 (List.map E_int32 o3)))]⟩ :: stk⟩ = (fun r0 => (some (.ret (.d (.sl (List.map E_int32 r0))), stk) : Rk')) out := by
  refine LW.ind (fun (s : Str × Nat × (List Int) × Int) => match s with | (v0, o3_g, o3, v4) => b_cascaderef01_Runes_2 Prims.real p_cascaderef01_Right p_cascaderef01_Size  v0 o3_g o3 v4) (fun (s : Str × Nat × (List Int) × Int) o => match s with | (v0, o3_g, o3, v4) => atW table glob 22 true 2 [.lp ⟨2, [0, 3, 4], [[3]]⟩, .blk 0, .sub ⟨4, [3], [[3]]⟩] ⟨[(0, (.d (.str v0))), (3, (.msl ⟨m, [3]⟩ o3_g 0 (List.length (List.map E_int32 o3)))), (4, (.d (.int .i64 v4)))], ⟨m, [([3], (.arr o3_g 1 (List.map E_int32 o3)))]⟩ :: stk⟩ = (fun r0 => (some (.ret (.d (.sl (List.map E_int32 r0))), stk) : Rk')) o) (fun s r e => ?_) (fun s t r e ih => ?_) (v0, o3_g, o3, v4) out hp
  · obtain ⟨v0, o3_g, o3, v4⟩ := s
    exact o_cascaderef01_Runes_2 (h := LW) (hT := rfl) (he_e_int32 := fun _ => rfl) (hz_e_int32 := fun l => LW.allsz E_int32 1 (fun a => ⟨rfl, rfl⟩) l) (he_e_uint8 := fun _ => rfl) (hz_e_uint8 := fun l => LW.allsz E_uint8 1 (fun a => ⟨rfl, rfl⟩) l) (c_cascaderef01_Right := p_cascaderef01_Right) (c_cascaderef01_Size := p_cascaderef01_Size) (h_cascaderef01_Right := s_cascaderef01_Right) (h_cascaderef01_Size := s_cascaderef01_Size)   stk m v0 o3_g o3 v4 e
  · obtain ⟨v0, o3_g, o3, v4⟩ := s; obtain ⟨v0', o3_g', o3', v4'⟩ := t
    exact (o_cascaderef01_Runes_2 (h := LW) (hT := rfl) (he_e_int32 := fun _ => rfl) (hz_e_int32 := fun l => LW.allsz E_int32 1 (fun a => ⟨rfl, rfl⟩) l) (he_e_uint8 := fun _ => rfl) (hz_e_uint8 := fun l => LW.allsz E_uint8 1 (fun a => ⟨rfl, rfl⟩) l) (c_cascaderef01_Right := p_cascaderef01_Right) (c_cascaderef01_Size := p_cascaderef01_Size) (h_cascaderef01_Right := s_cascaderef01_Right) (h_cascaderef01_Size := s_cascaderef01_Size)   stk m v0 o3_g o3 v4 e).trans ih
noncomputable def p_cascaderef01_Runes_0 (v0 : Str) : Option ((List Int)) := b_cascaderef01_Runes_0 Prims.real p_cascaderef01_Right p_cascaderef01_Size p_cascaderef01_Runes_2 v0
theorem s_cascaderef01_Runes_0 (stk : Stk) (m : Nat) (v0 : Str) {out} (hp : p_cascaderef01_Runes_0 v0 = some out) : atW table glob 22 true 0 [] ⟨[(0, (.d (.str v0)))], ⟨m, []⟩ :: stk⟩ = (fun r0 => (some (.ret (.d (.sl (List.map E_int32 r0))), stk) : Rk')) out := by
  exact o_cascaderef01_Runes_0 (h := LW) (hT := rfl) (he_e_int32 := fun _ => rfl) (hz_e_int32 := fun l => LW.allsz E_int32 1 (fun a => ⟨rfl, rfl⟩) l) (he_e_uint8 := fun _ => rfl) (hz_e_uint8 := fun l => LW.allsz E_uint8 1 (fun a => ⟨rfl, rfl⟩) l) (c_cascaderef01_Right := p_cascaderef01_Right) (c_cascaderef01_Size := p_cascaderef01_Size) (h_cascaderef01_Right := s_cascaderef01_Right) (h_cascaderef01_Size := s_cascaderef01_Size) (l_2 := p_cascaderef01_Runes_2) (h_l_2 := fun hp => s_cascaderef01_Runes_2 stk m _ _ _ _ hp) stk m v0 hp
noncomputable def p_cascaderef01_Runes : Str → Option ((List Int)) := fun v0 => p_cascaderef01_Runes_0 v0
theorem s_cascaderef01_Runes : ∀ {a0 : Str} {r0 : (List Int)}, p_cascaderef01_Runes a0 = some r0 → ∀ stk, (sysW table glob).pcall 22 [(.d (.str a0))] stk = some (.d (.sl (List.map E_int32 r0))) := by
  intro _ _ hp stk
  exact pcall_of (T := table) (G := glob) (f := 22) rfl rfl (s_cascaderef01_Runes_0 stk _ _ hp)
noncomputable def p_cascadelaw01_TextRight_0 (v0 : Str) : Option (Bool) := b_cascadelaw01_TextRight_0 Prims.real p_cascadelaw01_awake p_text_Right p_cascaderef01_Bad p_text_Bad p_cascadelaw01_same p_text_Runes p_cascaderef01_Runes  v0
theorem s_cascadelaw01_TextRight_0 (stk : Stk) (m : Nat) (v0 : Str) {out} (hp : p_cascadelaw01_TextRight_0 v0 = some out) : atW table glob 4 true 0 [] ⟨[(0, (.d (.str v0)))], ⟨m, []⟩ :: stk⟩ = (fun r0 => (some (.ret (.d (.bool r0)), stk) : Rk')) out := by
  exact o_cascadelaw01_TextRight_0 (h := LW) (hT := rfl) (he_e_int32 := fun _ => rfl) (hz_e_int32 := fun l => LW.allsz E_int32 1 (fun a => ⟨rfl, rfl⟩) l) (he_e_uint8 := fun _ => rfl) (hz_e_uint8 := fun l => LW.allsz E_uint8 1 (fun a => ⟨rfl, rfl⟩) l) (c_cascadelaw01_awake := p_cascadelaw01_awake) (c_text_Right := p_text_Right) (c_cascaderef01_Bad := p_cascaderef01_Bad) (c_text_Bad := p_text_Bad) (c_cascadelaw01_same := p_cascadelaw01_same) (c_text_Runes := p_text_Runes) (c_cascaderef01_Runes := p_cascaderef01_Runes) (h_cascadelaw01_awake := s_cascadelaw01_awake) (h_text_Right := s_text_Right) (h_cascaderef01_Bad := s_cascaderef01_Bad) (h_text_Bad := s_text_Bad) (h_cascadelaw01_same := s_cascadelaw01_same) (h_text_Runes := s_text_Runes) (h_cascaderef01_Runes := s_cascaderef01_Runes)   stk m v0 hp
noncomputable def p_cascadelaw01_TextRight : Str → Option (Bool) := fun v0 => p_cascadelaw01_TextRight_0 v0
theorem s_cascadelaw01_TextRight : ∀ {a0 : Str} {r0 : Bool}, p_cascadelaw01_TextRight a0 = some r0 → ∀ stk, (sysW table glob).pcall 4 [(.d (.str a0))] stk = some (.d (.bool r0)) := by
  intro _ _ hp stk
  exact pcall_of (T := table) (G := glob) (f := 4) rfl rfl (s_cascadelaw01_TextRight_0 stk _ _ hp)
noncomputable def p_unicode_utf8_ValidRune_1  : Option (Bool) := b_unicode_utf8_ValidRune_1 Prims.real   
theorem s_unicode_utf8_ValidRune_1 (stk : Stk) (m : Nat)  {out} (hp : p_unicode_utf8_ValidRune_1  = some out) : atW table glob 41 true 1 [] ⟨[], ⟨m, []⟩ :: stk⟩ = (fun r0 => (some (.ret (.d (.bool r0)), stk) : Rk')) out := by
  exact o_unicode_utf8_ValidRune_1 (h := LW) (hT := rfl) (he_e_int32 := fun _ => rfl) (hz_e_int32 := fun l => LW.allsz E_int32 1 (fun a => ⟨rfl, rfl⟩) l) (he_e_uint8 := fun _ => rfl) (hz_e_uint8 := fun l => LW.allsz E_uint8 1 (fun a => ⟨rfl, rfl⟩) l)     stk m  hp
noncomputable def p_unicode_utf8_ValidRune_0 (v0 : Int) : Option (Bool) := b_unicode_utf8_ValidRune_0 Prims.real  p_unicode_utf8_ValidRune_1 v0
theorem s_unicode_utf8_ValidRune_0 (stk : Stk) (m : Nat) (v0 : Int) {out} (hp : p_unicode_utf8_ValidRune_0 v0 = some out) : atW table glob 41 true 0 [] ⟨[(0, (.d (.int .i32 v0)))], ⟨m, []⟩ :: stk⟩ = (fun r0 => (some (.ret (.d (.bool r0)), stk) : Rk')) out := by
  exact o_unicode_utf8_ValidRune_0 (h := LW) (hT := rfl) (he_e_int32 := fun _ => rfl) (hz_e_int32 := fun l => LW.allsz E_int32 1 (fun a => ⟨rfl, rfl⟩) l) (he_e_uint8 := fun _ => rfl) (hz_e_uint8 := fun l => LW.allsz E_uint8 1 (fun a => ⟨rfl, rfl⟩) l)   (l_1 := p_unicode_utf8_ValidRune_1) (h_l_1 := fun hp => s_unicode_utf8_ValidRune_1 stk m  hp) stk m v0 hp
noncomputable def p_unicode_utf8_ValidRune : Int → Option (Bool) := fun v0 => p_unicode_utf8_ValidRune_0 v0
theorem s_unicode_utf8_ValidRune : ∀ {a0 : Int} {r0 : Bool}, p_unicode_utf8_ValidRune a0 = some r0 → ∀ stk, (sysW table glob).pcall 41 [(.d (.int .i32 a0))] stk = some (.d (.bool r0)) := by
  intro _ _ hp stk
  exact pcall_of (T := table) (G := glob) (f := 41) rfl rfl (s_unicode_utf8_ValidRune_0 stk _ _ hp)
noncomputable def p_text_Of_1 (v7 : (List Int)) (v8 : Int) (v9 : Int) (o4_u : Bool) (o4_1_g : Nat) (o4_1_s : Str) : Option (Str × Int) := Prims.real.loop (fun (s : (List Int) × Int × Int × Bool × Nat × Str) => match s with | (v7, v8, v9, o4_u, o4_1_g, o4_1_s) => b_text_Of_1 Prims.real p_unicode_utf8_ValidRune p_strings_Builder_WriteRune p_strings_Builder_String  v7 v8 v9 o4_u o4_1_g o4_1_s) (v7, v8, v9, o4_u, o4_1_g, o4_1_s)
theorem u_text_Of_1 (v7 : (List Int)) (v8 : Int) (v9 : Int) (o4_u : Bool) (o4_1_g : Nat) (o4_1_s : Str) : p_text_Of_1 v7 v8 v9 o4_u o4_1_g o4_1_s = match b_text_Of_1 Prims.real p_unicode_utf8_ValidRune p_strings_Builder_WriteRune p_strings_Builder_String  v7 v8 v9 o4_u o4_1_g o4_1_s with
    | some (.inl (v7', v8', v9', o4_u', o4_1_g', o4_1_s')) => p_text_Of_1 v7' v8' v9' o4_u' o4_1_g' o4_1_s'
    | some (.inr r) => some r
    | none => none := by
  show Pr.loop _ _ = _
  rw [Pr.loop_eq]
  dsimp only
  generalize b_text_Of_1 Prims.real p_unicode_utf8_ValidRune p_strings_Builder_WriteRune p_strings_Builder_String  v7 v8 v9 o4_u o4_1_g o4_1_s = y
  cases y with
  | none => rfl
  | some y => cases y <;> rfl
theorem s_text_Of_1 (stk : Stk) (m : Nat) (v7 : (List Int)) (v8 : Int) (v9 : Int) (o4_u : Bool) (o4_1_g : Nat) (o4_1_s : Str) {out} (hp : p_text_Of_1 v7 v8 v9 o4_u o4_1_g o4_1_s = some out) : atW table glob 26 true 1 [.lp ⟨1, [4, 7, 8, 9], [[4], [4, 1]]⟩, .blk 0, .sub ⟨5, [4], [[4], [4, 1]]⟩] ⟨[(4, (.ref ⟨m, [4]⟩ 0)), (7, (.d (.sl (List.map E_int32 v7)))), (8, (.d (.int .i64 v8))), (9, (.d (.int .i64 v9)))], ⟨m, [([4], (.bld 53 o4_u (.msl ⟨m, [4, 1]⟩ o4_1_g 0 0))), ([4, 1], (.hid 5 o4_1_g o4_1_s))]⟩ :: stk⟩ = (fun (r0, r1) => (some (.ret (.d (.tup [(.str r0), (.int .i64 r1)])), stk) : Rk')) out := by
  refine LW.ind (fun (s : (List Int) × Int × Int × Bool × Nat × Str) => match s with | (v7, v8, v9, o4_u, o4_1_g, o4_1_s) => b_text_Of_1 Prims.real p_unicode_utf8_ValidRune p_strings_Builder_WriteRune p_strings_Builder_String  v7 v8 v9 o4_u o4_1_g o4_1_s) (fun (s : (List Int) × Int × Int × Bool × Nat × Str) o => match s with | (v7, v8, v9, o4_u, o4_1_g, o4_1_s) => atW table glob 26 true 1 [.lp ⟨1, [4, 7, 8, 9], [[4], [4, 1]]⟩, .blk 0, .sub ⟨5, [4], [[4], [4, 1]]⟩] ⟨[(4, (.ref ⟨m, [4]⟩ 0)), (7, (.d (.sl (List.map E_int32 v7)))), (8, (.d (.int .i64 v8))), (9, (.d (.int .i64 v9)))], ⟨m, [([4], (.bld 53 o4_u (.msl ⟨m, [4, 1]⟩ o4_1_g 0 0))), ([4, 1], (.hid 5 o4_1_g o4_1_s))]⟩ :: stk⟩ = (fun (r0, r1) => (some (.ret (.d (.tup [(.str r0), (.int .i64 r1)])), stk) : Rk')) o) (fun s r e => ?_) (fun s t r e ih => ?_) (v7, v8, v9, o4_u, o4_1_g, o4_1_s) out hp
  · obtain ⟨v7, v8, v9, o4_u, o4_1_g, o4_1_s⟩ := s
    exact o_text_Of_1 (h := LW) (hT := rfl) (he_e_int32 := fun _ => rfl) (hz_e_int32 := fun l => LW.allsz E_int32 1 (fun a => ⟨rfl, rfl⟩) l) (he_e_uint8 := fun _ => rfl) (hz_e_uint8 := fun l => LW.allsz E_uint8 1 (fun a => ⟨rfl, rfl⟩) l) (c_unicode_utf8_ValidRune := p_unicode_utf8_ValidRune) (c_strings_Builder_WriteRune := p_strings_Builder_WriteRune) (c_strings_Builder_String := p_strings_Builder_String) (h_unicode_utf8_ValidRune := s_unicode_utf8_ValidRune) (h_strings_Builder_WriteRune := s_strings_Builder_WriteRune) (h_strings_Builder_String := s_strings_Builder_String)   stk m v7 v8 v9 o4_u o4_1_g o4_1_s e
  · obtain ⟨v7, v8, v9, o4_u, o4_1_g, o4_1_s⟩ := s; obtain ⟨v7', v8', v9', o4_u', o4_1_g', o4_1_s'⟩ := t
    exact (o_text_Of_1 (h := LW) (hT := rfl) (he_e_int32 := fun _ => rfl) (hz_e_int32 := fun l => LW.allsz E_int32 1 (fun a => ⟨rfl, rfl⟩) l) (he_e_uint8 := fun _ => rfl) (hz_e_uint8 := fun l => LW.allsz E_uint8 1 (fun a => ⟨rfl, rfl⟩) l) (c_unicode_utf8_ValidRune := p_unicode_utf8_ValidRune) (c_strings_Builder_WriteRune := p_strings_Builder_WriteRune) (c_strings_Builder_String := p_strings_Builder_String) (h_unicode_utf8_ValidRune := s_unicode_utf8_ValidRune) (h_strings_Builder_WriteRune := s_strings_Builder_WriteRune) (h_strings_Builder_String := s_strings_Builder_String)   stk m v7 v8 v9 o4_u o4_1_g o4_1_s e).trans ih
noncomputable def p_text_Of_0 (v0 : (List Int)) : Option (Str × Int) := b_text_Of_0 Prims.real p_unicode_utf8_ValidRune p_strings_Builder_WriteRune p_strings_Builder_String p_text_Of_1 v0
theorem s_text_Of_0 (stk : Stk) (m : Nat) (v0 : (List Int)) {out} (hp : p_text_Of_0 v0 = some out) : atW table glob 26 true 0 [] ⟨[(0, (.d (.sl (List.map E_int32 v0))))], ⟨m, []⟩ :: stk⟩ = (fun (r0, r1) => (some (.ret (.d (.tup [(.str r0), (.int .i64 r1)])), stk) : Rk')) out := by
  exact o_text_Of_0 (h := LW) (hT := rfl) (he_e_int32 := fun _ => rfl) (hz_e_int32 := fun l => LW.allsz E_int32 1 (fun a => ⟨rfl, rfl⟩) l) (he_e_uint8 := fun _ => rfl) (hz_e_uint8 := fun l => LW.allsz E_uint8 1 (fun a => ⟨rfl, rfl⟩) l) (c_unicode_utf8_ValidRune := p_unicode_utf8_ValidRune) (c_strings_Builder_WriteRune := p_strings_Builder_WriteRune) (c_strings_Builder_String := p_strings_Builder_String) (h_unicode_utf8_ValidRune := s_unicode_utf8_ValidRune) (h_strings_Builder_WriteRune := s_strings_Builder_WriteRune) (h_strings_Builder_String := s_strings_Builder_String) (l_1 := p_text_Of_1) (h_l_1 := fun hp => s_text_Of_1 stk m _ _ _ _ _ _ hp) stk m v0 hp
noncomputable def p_text_Of : (List Int) → Option (Str × Int) := fun v0 => p_text_Of_0 v0
theorem s_text_Of : ∀ {a0 : (List Int)} {r0 : Str} {r1 : Int}, p_text_Of a0 = some (r0, r1) → ∀ stk, (sysW table glob).pcall 26 [(.d (.sl (List.map E_int32 a0)))] stk = some (.d (.tup [(.str r0), (.int .i64 r1)])) := by
  intro _ _ _ hp stk
  exact pcall_of (T := table) (G := glob) (f := 26) rfl rfl (s_text_Of_0 stk _ _ hp)
noncomputable def p_cascaderef01_Rune_1 (v3 : Int) : Option (Str) := b_cascaderef01_Rune_1 Prims.real   v3
theorem s_cascaderef01_Rune_1 (stk : Stk) (m : Nat) (v3 : Int) {out} (hp : p_cascaderef01_Rune_1 v3 = some out) : atW table glob 44 true 1 [] ⟨[(3, (.d (.int .i64 v3)))], ⟨m, []⟩ :: stk⟩ = (fun r0 => (some (.ret (.d (.str r0)), stk) : Rk')) out := by
  exact o_cascaderef01_Rune_1 (h := LW) (hT := rfl) (he_e_int32 := fun _ => rfl) (hz_e_int32 := fun l => LW.allsz E_int32 1 (fun a => ⟨rfl, rfl⟩) l) (he_e_uint8 := fun _ => rfl) (hz_e_uint8 := fun l => LW.allsz E_uint8 1 (fun a => ⟨rfl, rfl⟩) l)     stk m v3 hp
noncomputable def p_cascaderef01_Rune_0 (v0 : Int) : Option (Str) := b_cascaderef01_Rune_0 Prims.real  p_cascaderef01_Rune_1 v0
theorem s_cascaderef01_Rune_0 (stk : Stk) (m : Nat) (v0 : Int) {out} (hp : p_cascaderef01_Rune_0 v0 = some out) : atW table glob 44 true 0 [] ⟨[(0, (.d (.int .i32 v0)))], ⟨m, []⟩ :: stk⟩ = (fun r0 => (some (.ret (.d (.str r0)), stk) : Rk')) out := by
  exact o_cascaderef01_Rune_0 (h := LW) (hT := rfl) (he_e_int32 := fun _ => rfl) (hz_e_int32 := fun l => LW.allsz E_int32 1 (fun a => ⟨rfl, rfl⟩) l) (he_e_uint8 := fun _ => rfl) (hz_e_uint8 := fun l => LW.allsz E_uint8 1 (fun a => ⟨rfl, rfl⟩) l)   (l_1 := p_cascaderef01_Rune_1) (h_l_1 := fun hp => s_cascaderef01_Rune_1 stk m _ hp) stk m v0 hp
noncomputable def p_cascaderef01_Rune : Int → Option (Str) := fun v0 => p_cascaderef01_Rune_0 v0
theorem s_cascaderef01_Rune : ∀ {a0 : Int} {r0 : Str}, p_cascaderef01_Rune a0 = some r0 → ∀ stk, (sysW table glob).pcall 44 [(.d (.int .i32 a0))] stk = some (.d (.str r0)) := by
  intro _ _ hp stk
  exact pcall_of (T := table) (G := glob) (f := 44) rfl rfl (s_cascaderef01_Rune_0 stk _ _ hp)
noncomputable def p_cascaderef01_Of_1 (v0 : (List Int)) (v4 : Str) (v5 : Int) : Option (Str × Int) := Prims.real.loop (fun (s : (List Int) × Str × Int) => match s with | (v0, v4, v5) => b_cascaderef01_Of_1 Prims.real p_cascaderef01_Rune  v0 v4 v5) (v0, v4, v5)
theorem u_cascaderef01_Of_1 (v0 : (List Int)) (v4 : Str) (v5 : Int) : p_cascaderef01_Of_1 v0 v4 v5 = match b_cascaderef01_Of_1 Prims.real p_cascaderef01_Rune  v0 v4 v5 with
    | some (.inl (v0', v4', v5')) => p_cascaderef01_Of_1 v0' v4' v5'
    | some (.inr r) => some r
    | none => none := by
  show Pr.loop _ _ = _
  rw [Pr.loop_eq]
  dsimp only
  generalize b_cascaderef01_Of_1 Prims.real p_cascaderef01_Rune  v0 v4 v5 = y
  cases y with
  | none => rfl
  | some y => cases y <;> rfl
theorem s_cascaderef01_Of_1 (stk : Stk) (m : Nat) (v0 : (List Int)) (v4 : Str) (v5 : Int) {out} (hp : p_cascaderef01_Of_1 v0 v4 v5 = some out) : atW table glob 27 true 1 [.lp ⟨1, [0, 4, 5], []⟩, .blk 0, .sub ⟨5, [4], []⟩] ⟨[(0, (.d (.sl (List.map E_int32 v0)))), (4, (.d (.str v4))), (5, (.d (.int .i64 v5)))], ⟨m, []⟩ :: stk⟩ = (fun (r0, r1) => (some (.ret (.d (.tup [(.str r0), (.int .i64 r1)])), stk) : Rk')) out := by
  refine LW.ind (fun (s : (List Int) × Str × Int) => match s with | (v0, v4, v5) => b_cascaderef01_Of_1 Prims.real p_cascaderef01_Rune  v0 v4 v5) (fun (s : (List Int) × Str × Int) o => match s with | (v0, v4, v5) => atW table glob 27 true 1 [.lp ⟨1, [0, 4, 5], []⟩, .blk 0, .sub ⟨5, [4], []⟩] ⟨[(0, (.d (.sl (List.map E_int32 v0)))), (4, (.d (.str v4))), (5, (.d (.int .i64 v5)))], ⟨m, []⟩ :: stk⟩ = (fun (r0, r1) => (some (.ret (.d (.tup [(.str r0), (.int .i64 r1)])), stk) : Rk')) o) (fun s r e => ?_) (fun s t r e ih => ?_) (v0, v4, v5) out hp
  · obtain ⟨v0, v4, v5⟩ := s
    exact o_cascaderef01_Of_1 (h := LW) (hT := rfl) (he_e_int32 := fun _ => rfl) (hz_e_int32 := fun l => LW.allsz E_int32 1 (fun a => ⟨rfl, rfl⟩) l) (he_e_uint8 := fun _ => rfl) (hz_e_uint8 := fun l => LW.allsz E_uint8 1 (fun a => ⟨rfl, rfl⟩) l) (c_cascaderef01_Rune := p_cascaderef01_Rune) (h_cascaderef01_Rune := s_cascaderef01_Rune)   stk m v0 v4 v5 e
  · obtain ⟨v0, v4, v5⟩ := s; obtain ⟨v0', v4', v5'⟩ := t
    exact (o_cascaderef01_Of_1 (h := LW) (hT := rfl) (he_e_int32 := fun _ => rfl) (hz_e_int32 := fun l => LW.allsz E_int32 1 (fun a => ⟨rfl, rfl⟩) l) (he_e_uint8 := fun _ => rfl) (hz_e_uint8 := fun l => LW.allsz E_uint8 1 (fun a => ⟨rfl, rfl⟩) l) (c_cascaderef01_Rune := p_cascaderef01_Rune) (h_cascaderef01_Rune := s_cascaderef01_Rune)   stk m v0 v4 v5 e).trans ih
noncomputable def p_cascaderef01_Of_0 (v0 : (List Int)) : Option (Str × Int) := b_cascaderef01_Of_0 Prims.real p_cascaderef01_Rune p_cascaderef01_Of_1 v0
theorem s_cascaderef01_Of_0 (stk : Stk) (m : Nat) (v0 : (List Int)) {out} (hp : p_cascaderef01_Of_0 v0 = some out) : atW table glob 27 true 0 [] ⟨[(0, (.d (.sl (List.map E_int32 v0))))], ⟨m, []⟩ :: stk⟩ = (fun (r0, r1) => (some (.ret (.d (.tup [(.str r0), (.int .i64 r1)])), stk) : Rk')) out := by
  exact o_cascaderef01_Of_0 (h := LW) (hT := rfl) (he_e_int32 := fun _ => rfl) (hz_e_int32 := fun l => LW.allsz E_int32 1 (fun a => ⟨rfl, rfl⟩) l) (he_e_uint8 := fun _ => rfl) (hz_e_uint8 := fun l => LW.allsz E_uint8 1 (fun a => ⟨rfl, rfl⟩) l) (c_cascaderef01_Rune := p_cascaderef01_Rune) (h_cascaderef01_Rune := s_cascaderef01_Rune) (l_1 := p_cascaderef01_Of_1) (h_l_1 := fun hp => s_cascaderef01_Of_1 stk m _ _ _ hp) stk m v0 hp
noncomputable def p_cascaderef01_Of : (List Int) → Option (Str × Int) := fun v0 => p_cascaderef01_Of_0 v0
theorem s_cascaderef01_Of : ∀ {a0 : (List Int)} {r0 : Str} {r1 : Int}, p_cascaderef01_Of a0 = some (r0, r1) → ∀ stk, (sysW table glob).pcall 27 [(.d (.sl (List.map E_int32 a0)))] stk = some (.d (.tup [(.str r0), (.int .i64 r1)])) := by
  intro _ _ _ hp stk
  exact pcall_of (T := table) (G := glob) (f := 27) rfl rfl (s_cascaderef01_Of_0 stk _ _ hp)
noncomputable def p_cascadelaw01_TextOf_0 (v0 : (List Int)) : Option (Bool) := b_cascadelaw01_TextOf_0 Prims.real p_cascadelaw01_awake p_cascadelaw01_same p_text_Runes p_text_Of p_cascaderef01_Of  v0
theorem s_cascadelaw01_TextOf_0 (stk : Stk) (m : Nat) (v0 : (List Int)) {out} (hp : p_cascadelaw01_TextOf_0 v0 = some out) : atW table glob 7 true 0 [] ⟨[(0, (.d (.sl (List.map E_int32 v0))))], ⟨m, []⟩ :: stk⟩ = (fun r0 => (some (.ret (.d (.bool r0)), stk) : Rk')) out := by
  exact o_cascadelaw01_TextOf_0 (h := LW) (hT := rfl) (he_e_int32 := fun _ => rfl) (hz_e_int32 := fun l => LW.allsz E_int32 1 (fun a => ⟨rfl, rfl⟩) l) (he_e_uint8 := fun _ => rfl) (hz_e_uint8 := fun l => LW.allsz E_uint8 1 (fun a => ⟨rfl, rfl⟩) l) (c_cascadelaw01_awake := p_cascadelaw01_awake) (c_cascadelaw01_same := p_cascadelaw01_same) (c_text_Runes := p_text_Runes) (c_text_Of := p_text_Of) (c_cascaderef01_Of := p_cascaderef01_Of) (h_cascadelaw01_awake := s_cascadelaw01_awake) (h_cascadelaw01_same := s_cascadelaw01_same) (h_text_Runes := s_text_Runes) (h_text_Of := s_text_Of) (h_cascaderef01_Of := s_cascaderef01_Of)   stk m v0 hp
noncomputable def p_cascadelaw01_TextOf : (List Int) → Option (Bool) := fun v0 => p_cascadelaw01_TextOf_0 v0
theorem s_cascadelaw01_TextOf : ∀ {a0 : (List Int)} {r0 : Bool}, p_cascadelaw01_TextOf a0 = some r0 → ∀ stk, (sysW table glob).pcall 7 [(.d (.sl (List.map E_int32 a0)))] stk = some (.d (.bool r0)) := by
  intro _ _ hp stk
  exact pcall_of (T := table) (G := glob) (f := 7) rfl rfl (s_cascadelaw01_TextOf_0 stk _ _ hp)
noncomputable def p_quote_escape_0 (v0 : Int) : Option (Str) := b_quote_escape_0 Prims.real   v0
theorem s_quote_escape_0 (stk : Stk) (m : Nat) (v0 : Int) {out} (hp : p_quote_escape_0 v0 = some out) : atW table glob 46 true 0 [] ⟨[(0, (.d (.int .i32 v0)))], ⟨m, []⟩ :: stk⟩ = (fun r0 => (some (.ret (.d (.str r0)), stk) : Rk')) out := by
  exact o_quote_escape_0 (h := LW) (hT := rfl) (he_e_int32 := fun _ => rfl) (hz_e_int32 := fun l => LW.allsz E_int32 1 (fun a => ⟨rfl, rfl⟩) l) (he_e_uint8 := fun _ => rfl) (hz_e_uint8 := fun l => LW.allsz E_uint8 1 (fun a => ⟨rfl, rfl⟩) l)     stk m v0 hp
noncomputable def p_quote_escape : Int → Option (Str) := fun v0 => p_quote_escape_0 v0
theorem s_quote_escape : ∀ {a0 : Int} {r0 : Str}, p_quote_escape a0 = some r0 → ∀ stk, (sysW table glob).pcall 46 [(.d (.int .i32 a0))] stk = some (.d (.str r0)) := by
  intro _ _ hp stk
  exact pcall_of (T := table) (G := glob) (f := 46) rfl rfl (s_quote_escape_0 stk _ _ hp)
noncomputable def p_quote_Quote_2 (o4_u : Bool) (o4_1_g : Nat) (o4_1_s : Str) (o13_s : Str) (o13_p : Nat) : Option (Str × Int) := Prims.real.loop (fun (s : Bool × Nat × Str × Str × Nat) => match s with | (o4_u, o4_1_g, o4_1_s, o13_s, o13_p) => b_quote_Quote_2 Prims.real p_text_Right p_strings_Builder_WriteRune p_strings_Builder_String p_strings_Builder_WriteByte p_quote_escape p_strings_Builder_WriteString  o4_u o4_1_g o4_1_s o13_s o13_p) (o4_u, o4_1_g, o4_1_s, o13_s, o13_p)
theorem u_quote_Quote_2 (o4_u : Bool) (o4_1_g : Nat) (o4_1_s : Str) (o13_s : Str) (o13_p : Nat) : p_quote_Quote_2 o4_u o4_1_g o4_1_s o13_s o13_p = match b_quote_Quote_2 Prims.real p_text_Right p_strings_Builder_WriteRune p_strings_Builder_String p_strings_Builder_WriteByte p_quote_escape p_strings_Builder_WriteString  o4_u o4_1_g o4_1_s o13_s o13_p with
    | some (.inl (o4_u', o4_1_g', o4_1_s', o13_s', o13_p')) => p_quote_Quote_2 o4_u' o4_1_g' o4_1_s' o13_s' o13_p'
    | some (.inr r) => some r
    | none => none := by
  show Pr.loop _ _ = _
  rw [Pr.loop_eq]
  dsimp only
  generalize b_quote_Quote_2 Prims.real p_text_Right p_strings_Builder_WriteRune p_strings_Builder_String p_strings_Builder_WriteByte p_quote_escape p_strings_Builder_WriteString  o4_u o4_1_g o4_1_s o13_s o13_p = y
  cases y with
  | none => rfl
  | some y => cases y <;> rfl
theorem s_quote_Quote_2 (stk : Stk) (m : Nat) (o4_u : Bool) (o4_1_g : Nat) (o4_1_s : Str) (o13_s : Str) (o13_p : Nat) {out} (hp : p_quote_Quote_2 o4_u o4_1_g o4_1_s o13_s o13_p = some out) : atW table glob 29 true 2 [.lp ⟨2, [4, 13], [[4], [4, 1], [13]]⟩, .blk 0, .sub ⟨4, [4], [[4], [4, 1]]⟩] ⟨[(4, (.ref ⟨m, [4]⟩ 0)), (13, (.ref ⟨m, [13]⟩ 0))], ⟨m, [([4], (.bld 53 o4_u (.msl ⟨m, [4, 1]⟩ o4_1_g 0 0))), ([4, 1], (.hid 5 o4_1_g o4_1_s)), ([13], (.siter o13_s o13_p))]⟩ :: stk⟩ = (fun (r0, r1) => (some (.ret (.d (.tup [(.str r0), (.int .i64 r1)])), stk) : Rk')) out := by
  refine LW.ind (fun (s : Bool × Nat × Str × Str × Nat) => match s with | (o4_u, o4_1_g, o4_1_s, o13_s, o13_p) => b_quote_Quote_2 Prims.real p_text_Right p_strings_Builder_WriteRune p_strings_Builder_String p_strings_Builder_WriteByte p_quote_escape p_strings_Builder_WriteString  o4_u o4_1_g o4_1_s o13_s o13_p) (fun (s : Bool × Nat × Str × Str × Nat) o => match s with | (o4_u, o4_1_g, o4_1_s, o13_s, o13_p) => atW table glob 29 true 2 [.lp ⟨2, [4, 13], [[4], [4, 1], [13]]⟩, .blk 0, .sub ⟨4, [4], [[4], [4, 1]]⟩] ⟨[(4, (.ref ⟨m, [4]⟩ 0)), (13, (.ref ⟨m, [13]⟩ 0))], ⟨m, [([4], (.bld 53 o4_u (.msl ⟨m, [4, 1]⟩ o4_1_g 0 0))), ([4, 1], (.hid 5 o4_1_g o4_1_s)), ([13], (.siter o13_s o13_p))]⟩ :: stk⟩ = (fun (r0, r1) => (some (.ret (.d (.tup [(.str r0), (.int .i64 r1)])), stk) : Rk')) o) (fun s r e => ?_) (fun s t r e ih => ?_) (o4_u, o4_1_g, o4_1_s, o13_s, o13_p) out hp
  · obtain ⟨o4_u, o4_1_g, o4_1_s, o13_s, o13_p⟩ := s
    exact o_quote_Quote_2 (h := LW) (hT := rfl) (he_e_int32 := fun _ => rfl) (hz_e_int32 := fun l => LW.allsz E_int32 1 (fun a => ⟨rfl, rfl⟩) l) (he_e_uint8 := fun _ => rfl) (hz_e_uint8 := fun l => LW.allsz E_uint8 1 (fun a => ⟨rfl, rfl⟩) l) (c_text_Right := p_text_Right) (c_strings_Builder_WriteRune := p_strings_Builder_WriteRune) (c_strings_Builder_String := p_strings_Builder_String) (c_strings_Builder_WriteByte := p_strings_Builder_WriteByte) (c_quote_escape := p_quote_escape) (c_strings_Builder_WriteString := p_strings_Builder_WriteString) (h_text_Right := s_text_Right) (h_strings_Builder_WriteRune := s_strings_Builder_WriteRune) (h_strings_Builder_String := s_strings_Builder_String) (h_strings_Builder_WriteByte := s_strings_Builder_WriteByte) (h_quote_escape := s_quote_escape) (h_strings_Builder_WriteString := s_strings_Builder_WriteString)   stk m o4_u o4_1_g o4_1_s o13_s o13_p e
  · obtain ⟨o4_u, o4_1_g, o4_1_s, o13_s, o13_p⟩ := s; obtain ⟨o4_u', o4_1_g', o4_1_s', o13_s', o13_p'⟩ := t
    exact (o_quote_Quote_2 (h := LW) (hT := rfl) (he_e_int32 := fun _ => rfl) (hz_e_int32 := fun l => LW.allsz E_int32 1 (fun a => ⟨rfl, rfl⟩) l) (he_e_uint8 := fun _ => rfl) (hz_e_uint8 := fun l => LW.allsz E_uint8 1 (fun a => ⟨rfl, rfl⟩) l) (c_text_Right := p_text_Right) (c_strings_Builder_WriteRune := p_strings_Builder_WriteRune) (c_strings_Builder_String := p_strings_Builder_String) (c_strings_Builder_WriteByte := p_strings_Builder_WriteByte) (c_quote_escape := p_quote_escape) (c_strings_Builder_WriteString := p_strings_Builder_WriteString) (h_text_Right := s_text_Right) (h_strings_Builder_WriteRune := s_strings_Builder_WriteRune) (h_strings_Builder_String := s_strings_Builder_String) (h_strings_Builder_WriteByte := s_strings_Builder_WriteByte) (h_quote_escape := s_quote_escape) (h_strings_Builder_WriteString := s_strings_Builder_WriteString)   stk m o4_u o4_1_g o4_1_s o13_s o13_p e).trans ih
noncomputable def p_quote_Quote_0 (v0 : Str) : Option (Str × Int) := b_quote_Quote_0 Prims.real p_text_Right p_strings_Builder_WriteRune p_strings_Builder_String p_strings_Builder_WriteByte p_quote_escape p_strings_Builder_WriteString p_quote_Quote_2 v0
theorem s_quote_Quote_0 (stk : Stk) (m : Nat) (v0 : Str) {out} (hp : p_quote_Quote_0 v0 = some out) : atW table glob 29 true 0 [] ⟨[(0, (.d (.str v0)))], ⟨m, []⟩ :: stk⟩ = (fun (r0, r1) => (some (.ret (.d (.tup [(.str r0), (.int .i64 r1)])), stk) : Rk')) out := by
  exact o_quote_Quote_0 (h := LW) (hT := rfl) (he_e_int32 := fun _ => rfl) (hz_e_int32 := fun l => LW.allsz E_int32 1 (fun a => ⟨rfl, rfl⟩) l) (he_e_uint8 := fun _ => rfl) (hz_e_uint8 := fun l => LW.allsz E_uint8 1 (fun a => ⟨rfl, rfl⟩) l) (c_text_Right := p_text_Right) (c_strings_Builder_WriteRune := p_strings_Builder_WriteRune) (c_strings_Builder_String := p_strings_Builder_String) (c_strings_Builder_WriteByte := p_strings_Builder_WriteByte) (c_quote_escape := p_quote_escape) (c_strings_Builder_WriteString := p_strings_Builder_WriteString) (h_text_Right := s_text_Right) (h_strings_Builder_WriteRune := s_strings_Builder_WriteRune) (h_strings_Builder_String := s_strings_Builder_String) (h_strings_Builder_WriteByte := s_strings_Builder_WriteByte) (h_quote_escape := s_quote_escape) (h_strings_Builder_WriteString := s_strings_Builder_WriteString) (l_2 := p_quote_Quote_2) (h_l_2 := fun hp => s_quote_Quote_2 stk m _ _ _ _ _ hp) stk m v0 hp
noncomputable def p_quote_Quote : Str → Option (Str × Int) := fun v0 => p_quote_Quote_0 v0
theorem s_quote_Quote : ∀ {a0 : Str} {r0 : Str} {r1 : Int}, p_quote_Quote a0 = some (r0, r1) → ∀ stk, (sysW table glob).pcall 29 [(.d (.str a0))] stk = some (.d (.tup [(.str r0), (.int .i64 r1)])) := by
  intro _ _ _ hp stk
  exact pcall_of (T := table) (G := glob) (f := 29) rfl rfl (s_quote_Quote_0 stk _ _ hp)
noncomputable def p_cascadelaw02_awake_0  : Option (Bool) := b_cascadelaw02_awake_0 Prims.real p_quote_Quote  
theorem s_cascadelaw02_awake_0 (stk : Stk) (m : Nat)  {out} (hp : p_cascadelaw02_awake_0  = some out) : atW table glob 28 true 0 [] ⟨[], ⟨m, []⟩ :: stk⟩ = (fun r0 => (some (.ret (.d (.bool r0)), stk) : Rk')) out := by
  exact o_cascadelaw02_awake_0 (h := LW) (hT := rfl) (he_e_int32 := fun _ => rfl) (hz_e_int32 := fun l => LW.allsz E_int32 1 (fun a => ⟨rfl, rfl⟩) l) (he_e_uint8 := fun _ => rfl) (hz_e_uint8 := fun l => LW.allsz E_uint8 1 (fun a => ⟨rfl, rfl⟩) l) (c_quote_Quote := p_quote_Quote) (h_quote_Quote := s_quote_Quote)   stk m  hp
noncomputable def p_cascadelaw02_awake : Option (Bool) := p_cascadelaw02_awake_0
theorem s_cascadelaw02_awake : ∀ {r0 : Bool}, p_cascadelaw02_awake  = some r0 → ∀ stk, (sysW table glob).pcall 28 [] stk = some (.d (.bool r0)) := by
  intro _ hp stk
  exact pcall_of (T := table) (G := glob) (f := 28) rfl rfl (s_cascadelaw02_awake_0 stk _  hp)
noncomputable def p_cascaderef02_plain_1 (v0 : Int) (v3 : Int) (v4 : Bool) : Option (Int) := b_cascaderef02_plain_1 Prims.real   v0 v3 v4
theorem s_cascaderef02_plain_1 (stk : Stk) (m : Nat) (v0 : Int) (v3 : Int) (v4 : Bool) {out} (hp : p_cascaderef02_plain_1 v0 v3 v4 = some out) : atW table glob 48 true 1 [.blk 0, .sub ⟨2, [], []⟩] ⟨[(0, (.d (.int .u8 v0))), (3, (.d (.int .u8 v3))), (4, (.d (.bool v4)))], ⟨m, []⟩ :: stk⟩ = (fun r0 => (some (.ret (.d (.int .u8 r0)), stk) : Rk')) out := by
  exact o_cascaderef02_plain_1 (h := LW) (hT := rfl) (he_e_int32 := fun _ => rfl) (hz_e_int32 := fun l => LW.allsz E_int32 1 (fun a => ⟨rfl, rfl⟩) l) (he_e_uint8 := fun _ => rfl) (hz_e_uint8 := fun l => LW.allsz E_uint8 1 (fun a => ⟨rfl, rfl⟩) l)     stk m v0 v3 v4 hp
noncomputable def p_cascaderef02_plain_0 (v0 : Int) : Option (Int) := b_cascaderef02_plain_0 Prims.real  p_cascaderef02_plain_1 v0
theorem s_cascaderef02_plain_0 (stk : Stk) (m : Nat) (v0 : Int) {out} (hp : p_cascaderef02_plain_0 v0 = some out) : atW table glob 48 true 0 [] ⟨[(0, (.d (.int .u8 v0)))], ⟨m, []⟩ :: stk⟩ = (fun r0 => (some (.ret (.d (.int .u8 r0)), stk) : Rk')) out := by
  exact o_cascaderef02_plain_0 (h := LW) (hT := rfl) (he_e_int32 := fun _ => rfl) (hz_e_int32 := fun l => LW.allsz E_int32 1 (fun a => ⟨rfl, rfl⟩) l) (he_e_uint8 := fun _ => rfl) (hz_e_uint8 := fun l => LW.allsz E_uint8 1 (fun a => ⟨rfl, rfl⟩) l)   (l_1 := p_cascaderef02_plain_1) (h_l_1 := fun hp => s_cascaderef02_plain_1 stk m _ _ _ hp) stk m v0 hp
noncomputable def p_cascaderef02_plain : Int → Option (Int) := fun v0 => p_cascaderef02_plain_0 v0
theorem s_cascaderef02_plain : ∀ {a0 : Int} {r0 : Int}, p_cascaderef02_plain a0 = some r0 → ∀ stk, (sysW table glob).pcall 48 [(.d (.int .u8 a0))] stk = some (.d (.int .u8 r0)) := by
  intro _ _ hp stk
  exact pcall_of (T := table) (G := glob) (f := 48) rfl rfl (s_cascaderef02_plain_0 stk _ _ hp)
noncomputable def p_cascaderef02_hex_0 (v0 : Int) : Option (Str) := b_cascaderef02_hex_0 Prims.real   v0
theorem s_cascaderef02_hex_0 (stk : Stk) (m : Nat) (v0 : Int) {out} (hp : p_cascaderef02_hex_0 v0 = some out) : atW table glob 49 true 0 [] ⟨[(0, (.d (.int .i64 v0)))], ⟨m, []⟩ :: stk⟩ = (fun r0 => (some (.ret (.d (.str r0)), stk) : Rk')) out := by
  exact o_cascaderef02_hex_0 (h := LW) (hT := rfl) (he_e_int32 := fun _ => rfl) (hz_e_int32 := fun l => LW.allsz E_int32 1 (fun a => ⟨rfl, rfl⟩) l) (he_e_uint8 := fun _ => rfl) (hz_e_uint8 := fun l => LW.allsz E_uint8 1 (fun a => ⟨rfl, rfl⟩) l)     stk m v0 hp
noncomputable def p_cascaderef02_hex : Int → Option (Str) := fun v0 => p_cascaderef02_hex_0 v0
theorem s_cascaderef02_hex : ∀ {a0 : Int} {r0 : Str}, p_cascaderef02_hex a0 = some r0 → ∀ stk, (sysW table glob).pcall 49 [(.d (.int .i64 a0))] stk = some (.d (.str r0)) := by
  intro _ _ hp stk
  exact pcall_of (T := table) (G := glob) (f := 49) rfl rfl (s_cascaderef02_hex_0 stk _ _ hp)
noncomputable def p_cascaderef02_Quote_3 (v0 : Str) (v3 : Str) (v4 : Int) : Option ((Str × Str × Int) ⊕ (Str)) := b_cascaderef02_Quote_3 Prims.real p_cascaderef02_plain p_cascaderef02_hex  v0 v3 v4
theorem s_cascaderef02_Quote_3 (stk : Stk) (m : Nat) (v0 : Str) (v3 : Str) (v4 : Int) {out} (hp : p_cascaderef02_Quote_3 v0 v3 v4 = some out) : atW table glob 31 true 3 [.lp ⟨1, [0, 3, 4], []⟩, .blk 0, .sub ⟨4, [3], []⟩] ⟨[(0, (.d (.str v0))), (3, (.d (.str v3))), (4, (.d (.int .i64 v4)))], ⟨m, []⟩ :: stk⟩ = (Sum.elim (fun (v0, v3, v4) => atW table glob 31 true 1 [.lp ⟨1, [0, 3, 4], []⟩, .blk 0, .sub ⟨4, [3], []⟩] ⟨[(0, (.d (.str v0))), (3, (.d (.str v3))), (4, (.d (.int .i64 v4)))], ⟨m, []⟩ :: stk⟩) (fun r0 => (some (.ret (.d (.str r0)), stk) : Rk'))) out := by
  exact o_cascaderef02_Quote_3 (h := LW) (hT := rfl) (he_e_int32 := fun _ => rfl) (hz_e_int32 := fun l => LW.allsz E_int32 1 (fun a => ⟨rfl, rfl⟩) l) (he_e_uint8 := fun _ => rfl) (hz_e_uint8 := fun l => LW.allsz E_uint8 1 (fun a => ⟨rfl, rfl⟩) l) (c_cascaderef02_plain := p_cascaderef02_plain) (c_cascaderef02_hex := p_cascaderef02_hex) (h_cascaderef02_plain := s_cascaderef02_plain) (h_cascaderef02_hex := s_cascaderef02_hex)   stk m v0 v3 v4 hp
noncomputable def p_cascaderef02_Quote_1 (v0 : Str) (v3 : Str) (v4 : Int) : Option (Str) := Prims.real.loop (fun (s : Str × Str × Int) => match s with | (v0, v3, v4) => b_cascaderef02_Quote_1 Prims.real p_cascaderef02_plain p_cascaderef02_hex p_cascaderef02_Quote_3 v0 v3 v4) (v0, v3, v4)
theorem u_cascaderef02_Quote_1 (v0 : Str) (v3 : Str) (v4 : Int) : p_cascaderef02_Quote_1 v0 v3 v4 = match b_cascaderef02_Quote_1 Prims.real p_cascaderef02_plain p_cascaderef02_hex p_cascaderef02_Quote_3 v0 v3 v4 with
    | some (.inl (v0', v3', v4')) => p_cascaderef02_Quote_1 v0' v3' v4'
    | some (.inr r) => some r
    | none => none := by
  show Pr.loop _ _ = _
  rw [Pr.loop_eq]
  dsimp only
  generalize b_cascaderef02_Quote_1 Prims.real p_cascaderef02_plain p_cascaderef02_hex p_cascaderef02_Quote_3 v0 v3 v4 = y
  cases y with
  | none => rfl
  | some y => cases y <;> rfl
theorem s_cascaderef02_Quote_1 (stk : Stk) (m : Nat) (v0 : Str) (v3 : Str) (v4 : Int) {out} (hp : p_cascaderef02_Quote_1 v0 v3 v4 = some out) : atW table glob 31 true 1 [.lp ⟨1, [0, 3, 4], []⟩, .blk 0, .sub ⟨4, [3], []⟩] ⟨[(0, (.d (.str v0))), (3, (.d (.str v3))), (4, (.d (.int .i64 v4)))], ⟨m, []⟩ :: stk⟩ = (fun r0 => (some (.ret (.d (.str r0)), stk) : Rk')) out := by
  refine LW.ind (fun (s : Str × Str × Int) => match s with | (v0, v3, v4) => b_cascaderef02_Quote_1 Prims.real p_cascaderef02_plain p_cascaderef02_hex p_cascaderef02_Quote_3 v0 v3 v4) (fun (s : Str × Str × Int) o => match s with | (v0, v3, v4) => atW table glob 31 true 1 [.lp ⟨1, [0, 3, 4], []⟩, .blk 0, .sub ⟨4, [3], []⟩] ⟨[(0, (.d (.str v0))), (3, (.d (.str v3))), (4, (.d (.int .i64 v4)))], ⟨m, []⟩ :: stk⟩ = (fun r0 => (some (.ret (.d (.str r0)), stk) : Rk')) o) (fun s r e => ?_) (fun s t r e ih => ?_) (v0, v3, v4) out hp
  · obtain ⟨v0, v3, v4⟩ := s
    exact o_cascaderef02_Quote_1 (h := LW) (hT := rfl) (he_e_int32 := fun _ => rfl) (hz_e_int32 := fun l => LW.allsz E_int32 1 (fun a => ⟨rfl, rfl⟩) l) (he_e_uint8 := fun _ => rfl) (hz_e_uint8 := fun l => LW.allsz E_uint8 1 (fun a => ⟨rfl, rfl⟩) l) (c_cascaderef02_plain := p_cascaderef02_plain) (c_cascaderef02_hex := p_cascaderef02_hex) (h_cascaderef02_plain := s_cascaderef02_plain) (h_cascaderef02_hex := s_cascaderef02_hex) (l_3 := p_cascaderef02_Quote_3) (h_l_3 := fun hp => s_cascaderef02_Quote_3 stk m _ _ _ hp) stk m v0 v3 v4 e
  · obtain ⟨v0, v3, v4⟩ := s; obtain ⟨v0', v3', v4'⟩ := t
    exact (o_cascaderef02_Quote_1 (h := LW) (hT := rfl) (he_e_int32 := fun _ => rfl) (hz_e_int32 := fun l => LW.allsz E_int32 1 (fun a => ⟨rfl, rfl⟩) l) (he_e_uint8 := fun _ => rfl) (hz_e_uint8 := fun l => LW.allsz E_uint8 1 (fun a => ⟨rfl, rfl⟩) l) (c_cascaderef02_plain := p_cascaderef02_plain) (c_cascaderef02_hex := p_cascaderef02_hex) (h_cascaderef02_plain := s_cascaderef02_plain) (h_cascaderef02_hex := s_cascaderef02_hex) (l_3 := p_cascaderef02_Quote_3) (h_l_3 := fun hp => s_cascaderef02_Quote_3 stk m _ _ _ hp) stk m v0 v3 v4 e).trans ih
noncomputable def p_cascaderef02_Quote_0 (v0 : Str) : Option (Str) := b_cascaderef02_Quote_0 Prims.real p_cascaderef02_plain p_cascaderef02_hex p_cascaderef02_Quote_1 v0
theorem s_cascaderef02_Quote_0 (stk : Stk) (m : Nat) (v0 : Str) {out} (hp : p_cascaderef02_Quote_0 v0 = some out) : atW table glob 31 true 0 [] ⟨[(0, (.d (.str v0)))], ⟨m, []⟩ :: stk⟩ = (fun r0 => (some (.ret (.d (.str r0)), stk) : Rk')) out := by
  exact o_cascaderef02_Quote_0 (h := LW) (hT := rfl) (he_e_int32 := fun _ => rfl) (hz_e_int32 := fun l => LW.allsz E_int32 1 (fun a => ⟨rfl, rfl⟩) l) (he_e_uint8 := fun _ => rfl) (hz_e_uint8 := fun l => LW.allsz E_uint8 1 (fun a => ⟨rfl, rfl⟩) l) (c_cascaderef02_plain := p_cascaderef02_plain) (c_cascaderef02_hex := p_cascaderef02_hex) (h_cascaderef02_plain := s_cascaderef02_plain) (h_cascaderef02_hex := s_cascaderef02_hex) (l_1 := p_cascaderef02_Quote_1) (h_l_1 := fun hp => s_cascaderef02_Quote_1 stk m _ _ _ hp) stk m v0 hp
noncomputable def p_cascaderef02_Quote : Str → Option (Str) := fun v0 => p_cascaderef02_Quote_0 v0
theorem s_cascaderef02_Quote : ∀ {a0 : Str} {r0 : Str}, p_cascaderef02_Quote a0 = some r0 → ∀ stk, (sysW table glob).pcall 31 [(.d (.str a0))] stk = some (.d (.str r0)) := by
  intro _ _ hp stk
  exact pcall_of (T := table) (G := glob) (f := 31) rfl rfl (s_cascaderef02_Quote_0 stk _ _ hp)
noncomputable def p_cascadelaw02_QuoteTexts_0 (v0 : Str) : Option (Bool) := b_cascadelaw02_QuoteTexts_0 Prims.real p_cascadelaw02_awake p_quote_Quote p_cascaderef01_Right p_cascaderef02_Quote  v0
theorem s_cascadelaw02_QuoteTexts_0 (stk : Stk) (m : Nat) (v0 : Str) {out} (hp : p_cascadelaw02_QuoteTexts_0 v0 = some out) : atW table glob 9 true 0 [] ⟨[(0, (.d (.str v0)))], ⟨m, []⟩ :: stk⟩ = (fun r0 => (some (.ret (.d (.bool r0)), stk) : Rk')) out := by
  exact o_cascadelaw02_QuoteTexts_0 (h := LW) (hT := rfl) (he_e_int32 := fun _ => rfl) (hz_e_int32 := fun l => LW.allsz E_int32 1 (fun a => ⟨rfl, rfl⟩) l) (he_e_uint8 := fun _ => rfl) (hz_e_uint8 := fun l => LW.allsz E_uint8 1 (fun a => ⟨rfl, rfl⟩) l) (c_cascadelaw02_awake := p_cascadelaw02_awake) (c_quote_Quote := p_quote_Quote) (c_cascaderef01_Right := p_cascaderef01_Right) (c_cascaderef02_Quote := p_cascaderef02_Quote) (h_cascadelaw02_awake := s_cascadelaw02_awake) (h_quote_Quote := s_quote_Quote) (h_cascaderef01_Right := s_cascaderef01_Right) (h_cascaderef02_Quote := s_cascaderef02_Quote)   stk m v0 hp
noncomputable def p_cascadelaw02_QuoteTexts : Str → Option (Bool) := fun v0 => p_cascadelaw02_QuoteTexts_0 v0
theorem s_cascadelaw02_QuoteTexts : ∀ {a0 : Str} {r0 : Bool}, p_cascadelaw02_QuoteTexts a0 = some r0 → ∀ stk, (sysW table glob).pcall 9 [(.d (.str a0))] stk = some (.d (.bool r0)) := by
  intro _ _ hp stk
  exact pcall_of (T := table) (G := glob) (f := 9) rfl rfl (s_cascadelaw02_QuoteTexts_0 stk _ _ hp)
noncomputable def p_cascadelaw02_QuoteOne_6 (v5 : Str) (v9 : Int) : Option ((Str × Int) ⊕ (Bool)) := b_cascadelaw02_QuoteOne_6 Prims.real p_cascadelaw02_awake p_quote_Quote p_cascaderef01_Right  v5 v9
theorem s_cascadelaw02_QuoteOne_6 (stk : Stk) (m : Nat) (v5 : Str) (v9 : Int) {out} (hp : p_cascadelaw02_QuoteOne_6 v5 v9 = some out) : atW table glob 10 true 6 [.lp ⟨3, [5, 9], []⟩, .blk 0, .sub ⟨7, [], []⟩] ⟨[(5, (.d (.str v5))), (9, (.d (.int .i64 v9)))], ⟨m, []⟩ :: stk⟩ = (Sum.elim (fun (v5, v9) => atW table glob 10 true 3 [.lp ⟨3, [5, 9], []⟩, .blk 0, .sub ⟨7, [], []⟩] ⟨[(5, (.d (.str v5))), (9, (.d (.int .i64 v9)))], ⟨m, []⟩ :: stk⟩) (fun r0 => (some (.ret (.d (.bool r0)), stk) : Rk'))) out := by
  exact o_cascadelaw02_QuoteOne_6 (h := LW) (hT := rfl) (he_e_int32 := fun _ => rfl) (hz_e_int32 := fun l => LW.allsz E_int32 1 (fun a => ⟨rfl, rfl⟩) l) (he_e_uint8 := fun _ => rfl) (hz_e_uint8 := fun l => LW.allsz E_uint8 1 (fun a => ⟨rfl, rfl⟩) l) (c_cascadelaw02_awake := p_cascadelaw02_awake) (c_quote_Quote := p_quote_Quote) (c_cascaderef01_Right := p_cascaderef01_Right) (h_cascadelaw02_awake := s_cascadelaw02_awake) (h_quote_Quote := s_quote_Quote) (h_cascaderef01_Right := s_cascaderef01_Right)   stk m v5 v9 hp
noncomputable def p_cascadelaw02_QuoteOne_3 (v5 : Str) (v9 : Int) : Option (Bool) := Prims.real.loop (fun (s : Str × Int) => match s with | (v5, v9) => b_cascadelaw02_QuoteOne_3 Prims.real p_cascadelaw02_awake p_quote_Quote p_cascaderef01_Right p_cascadelaw02_QuoteOne_6 v5 v9) (v5, v9)
theorem u_cascadelaw02_QuoteOne_3 (v5 : Str) (v9 : Int) : p_cascadelaw02_QuoteOne_3 v5 v9 = match b_cascadelaw02_QuoteOne_3 Prims.real p_cascadelaw02_awake p_quote_Quote p_cascaderef01_Right p_cascadelaw02_QuoteOne_6 v5 v9 with
    | some (.inl (v5', v9')) => p_cascadelaw02_QuoteOne_3 v5' v9'
    | some (.inr r) => some r
    | none => none := by
  show Pr.loop _ _ = _
  rw [Pr.loop_eq]
  dsimp only
  generalize b_cascadelaw02_QuoteOne_3 Prims.real p_cascadelaw02_awake p_quote_Quote p_cascaderef01_Right p_cascadelaw02_QuoteOne_6 v5 v9 = y
  cases y with
  | none => rfl
  | some y => cases y <;> rfl
theorem s_cascadelaw02_QuoteOne_3 (stk : Stk) (m : Nat) (v5 : Str) (v9 : Int) {out} (hp : p_cascadelaw02_QuoteOne_3 v5 v9 = some out) : atW table glob 10 true 3 [.lp ⟨3, [5, 9], []⟩, .blk 0, .sub ⟨7, [], []⟩] ⟨[(5, (.d (.str v5))), (9, (.d (.int .i64 v9)))], ⟨m, []⟩ :: stk⟩ = (fun r0 => (some (.ret (.d (.bool r0)), stk) : Rk')) out := by
  refine LW.ind (fun (s : Str × Int) => match s with | (v5, v9) => b_cascadelaw02_QuoteOne_3 Prims.real p_cascadelaw02_awake p_quote_Quote p_cascaderef01_Right p_cascadelaw02_QuoteOne_6 v5 v9) (fun (s : Str × Int) o => match s with | (v5, v9) => atW table glob 10 true 3 [.lp ⟨3, [5, 9], []⟩, .blk 0, .sub ⟨7, [], []⟩] ⟨[(5, (.d (.str v5))), (9, (.d (.int .i64 v9)))], ⟨m, []⟩ :: stk⟩ = (fun r0 => (some (.ret (.d (.bool r0)), stk) : Rk')) o) (fun s r e => ?_) (fun s t r e ih => ?_) (v5, v9) out hp
  · obtain ⟨v5, v9⟩ := s
    exact o_cascadelaw02_QuoteOne_3 (h := LW) (hT := rfl) (he_e_int32 := fun _ => rfl) (hz_e_int32 := fun l => LW.allsz E_int32 1 (fun a => ⟨rfl, rfl⟩) l) (he_e_uint8 := fun _ => rfl) (hz_e_uint8 := fun l => LW.allsz E_uint8 1 (fun a => ⟨rfl, rfl⟩) l) (c_cascadelaw02_awake := p_cascadelaw02_awake) (c_quote_Quote := p_quote_Quote) (c_cascaderef01_Right := p_cascaderef01_Right) (h_cascadelaw02_awake := s_cascadelaw02_awake) (h_quote_Quote := s_quote_Quote) (h_cascaderef01_Right := s_cascaderef01_Right) (l_6 := p_cascadelaw02_QuoteOne_6) (h_l_6 := fun hp => s_cascadelaw02_QuoteOne_6 stk m _ _ hp) stk m v5 v9 e
  · obtain ⟨v5, v9⟩ := s; obtain ⟨v5', v9'⟩ := t
    exact (o_cascadelaw02_QuoteOne_3 (h := LW) (hT := rfl) (he_e_int32 := fun _ => rfl) (hz_e_int32 := fun l => LW.allsz E_int32 1 (fun a => ⟨rfl, rfl⟩) l) (he_e_uint8 := fun _ => rfl) (hz_e_uint8 := fun l => LW.allsz E_uint8 1 (fun a => ⟨rfl, rfl⟩) l) (c_cascadelaw02_awake := p_cascadelaw02_awake) (c_quote_Quote := p_quote_Quote) (c_cascaderef01_Right := p_cascaderef01_Right) (h_cascadelaw02_awake := s_cascadelaw02_awake) (h_quote_Quote := s_quote_Quote) (h_cascaderef01_Right := s_cascaderef01_Right) (l_6 := p_cascadelaw02_QuoteOne_6) (h_l_6 := fun hp => s_cascadelaw02_QuoteOne_6 stk m _ _ hp) stk m v5 v9 e).trans ih
noncomputable def p_cascadelaw02_QuoteOne_2 (v5 : Str) : Option (Bool) := b_cascadelaw02_QuoteOne_2 Prims.real p_cascadelaw02_awake p_quote_Quote p_cascaderef01_Right p_cascadelaw02_QuoteOne_3 v5
theorem s_cascadelaw02_QuoteOne_2 (stk : Stk) (m : Nat) (v5 : Str) {out} (hp : p_cascadelaw02_QuoteOne_2 v5 = some out) : atW table glob 10 true 2 [] ⟨[(5, (.d (.str v5)))], ⟨m, []⟩ :: stk⟩ = (fun r0 => (some (.ret (.d (.bool r0)), stk) : Rk')) out := by
  exact o_cascadelaw02_QuoteOne_2 (h := LW) (hT := rfl) (he_e_int32 := fun _ => rfl) (hz_e_int32 := fun l => LW.allsz E_int32 1 (fun a => ⟨rfl, rfl⟩) l) (he_e_uint8 := fun _ => rfl) (hz_e_uint8 := fun l => LW.allsz E_uint8 1 (fun a => ⟨rfl, rfl⟩) l) (c_cascadelaw02_awake := p_cascadelaw02_awake) (c_quote_Quote := p_quote_Quote) (c_cascaderef01_Right := p_cascaderef01_Right) (h_cascadelaw02_awake := s_cascadelaw02_awake) (h_quote_Quote := s_quote_Quote) (h_cascaderef01_Right := s_cascaderef01_Right) (l_3 := p_cascadelaw02_QuoteOne_3) (h_l_3 := fun hp => s_cascadelaw02_QuoteOne_3 stk m _ _ hp) stk m v5 hp
noncomputable def p_cascadelaw02_QuoteOne_0 (v0 : Str) (v1 : Str) : Option (Bool) := b_cascadelaw02_QuoteOne_0 Prims.real p_cascadelaw02_awake p_quote_Quote p_cascaderef01_Right p_cascadelaw02_QuoteOne_2 v0 v1
theorem s_cascadelaw02_QuoteOne_0 (stk : Stk) (m : Nat) (v0 : Str) (v1 : Str) {out} (hp : p_cascadelaw02_QuoteOne_0 v0 v1 = some out) : atW table glob 10 true 0 [] ⟨[(0, (.d (.str v0))), (1, (.d (.str v1)))], ⟨m, []⟩ :: stk⟩ = (fun r0 => (some (.ret (.d (.bool r0)), stk) : Rk')) out := by
  exact o_cascadelaw02_QuoteOne_0 (h := LW) (hT := rfl) (he_e_int32 := fun _ => rfl) (hz_e_int32 := fun l => LW.allsz E_int32 1 (fun a => ⟨rfl, rfl⟩) l) (he_e_uint8 := fun _ => rfl) (hz_e_uint8 := fun l => LW.allsz E_uint8 1 (fun a => ⟨rfl, rfl⟩) l) (c_cascadelaw02_awake := p_cascadelaw02_awake) (c_quote_Quote := p_quote_Quote) (c_cascaderef01_Right := p_cascaderef01_Right) (h_cascadelaw02_awake := s_cascadelaw02_awake) (h_quote_Quote := s_quote_Quote) (h_cascaderef01_Right := s_cascaderef01_Right) (l_2 := p_cascadelaw02_QuoteOne_2) (h_l_2 := fun hp => s_cascadelaw02_QuoteOne_2 stk m _ hp) stk m v0 v1 hp
noncomputable def p_cascadelaw02_QuoteOne : Str → Str → Option (Bool) := fun v0 v1 => p_cascadelaw02_QuoteOne_0 v0 v1
theorem s_cascadelaw02_QuoteOne : ∀ {a0 : Str} {a1 : Str} {r0 : Bool}, p_cascadelaw02_QuoteOne a0 a1 = some r0 → ∀ stk, (sysW table glob).pcall 10 [(.d (.str a0)), (.d (.str a1))] stk = some (.d (.bool r0)) := by
  intro _ _ _ hp stk
  exact pcall_of (T := table) (G := glob) (f := 10) rfl rfl (s_cascadelaw02_QuoteOne_0 stk _ _ _ hp)
noncomputable def p_internal_stringslite_HasPrefix_0 (v0 : Str) (v1 : Str) : Option (Bool) := b_internal_stringslite_HasPrefix_0 Prims.real   v0 v1
theorem s_internal_stringslite_HasPrefix_0 (stk : Stk) (m : Nat) (v0 : Str) (v1 : Str) {out} (hp : p_internal_stringslite_HasPrefix_0 v0 v1 = some out) : atW table glob 54 true 0 [] ⟨[(0, (.d (.str v0))), (1, (.d (.str v1)))], ⟨m, []⟩ :: stk⟩ = (fun r0 => (some (.ret (.d (.bool r0)), stk) : Rk')) out := by
  exact o_internal_stringslite_HasPrefix_0 (h := LW) (hT := rfl) (he_e_int32 := fun _ => rfl) (hz_e_int32 := fun l => LW.allsz E_int32 1 (fun a => ⟨rfl, rfl⟩) l) (he_e_uint8 := fun _ => rfl) (hz_e_uint8 := fun l => LW.allsz E_uint8 1 (fun a => ⟨rfl, rfl⟩) l)     stk m v0 v1 hp
noncomputable def p_internal_stringslite_HasPrefix : Str → Str → Option (Bool) := fun v0 v1 => p_internal_stringslite_HasPrefix_0 v0 v1
theorem s_internal_stringslite_HasPrefix : ∀ {a0 : Str} {a1 : Str} {r0 : Bool}, p_internal_stringslite_HasPrefix a0 a1 = some r0 → ∀ stk, (sysW table glob).pcall 54 [(.d (.str a0)), (.d (.str a1))] stk = some (.d (.bool r0)) := by
  intro _ _ _ hp stk
  exact pcall_of (T := table) (G := glob) (f := 54) rfl rfl (s_internal_stringslite_HasPrefix_0 stk _ _ _ hp)
noncomputable def p_strings_HasPrefix_0 (v0 : Str) (v1 : Str) : Option (Bool) := b_strings_HasPrefix_0 Prims.real p_internal_stringslite_HasPrefix  v0 v1
theorem s_strings_HasPrefix_0 (stk : Stk) (m : Nat) (v0 : Str) (v1 : Str) {out} (hp : p_strings_HasPrefix_0 v0 v1 = some out) : atW table glob 40 true 0 [] ⟨[(0, (.d (.str v0))), (1, (.d (.str v1)))], ⟨m, []⟩ :: stk⟩ = (fun r0 => (some (.ret (.d (.bool r0)), stk) : Rk')) out := by
  exact o_strings_HasPrefix_0 (h := LW) (hT := rfl) (he_e_int32 := fun _ => rfl) (hz_e_int32 := fun l => LW.allsz E_int32 1 (fun a => ⟨rfl, rfl⟩) l) (he_e_uint8 := fun _ => rfl) (hz_e_uint8 := fun l => LW.allsz E_uint8 1 (fun a => ⟨rfl, rfl⟩) l) (c_internal_stringslite_HasPrefix := p_internal_stringslite_HasPrefix) (h_internal_stringslite_HasPrefix := s_internal_stringslite_HasPrefix)   stk m v0 v1 hp
noncomputable def p_strings_HasPrefix : Str → Str → Option (Bool) := fun v0 v1 => p_strings_HasPrefix_0 v0 v1
theorem s_strings_HasPrefix : ∀ {a0 : Str} {a1 : Str} {r0 : Bool}, p_strings_HasPrefix a0 a1 = some r0 → ∀ stk, (sysW table glob).pcall 40 [(.d (.str a0)), (.d (.str a1))] stk = some (.d (.bool r0)) := by
  intro _ _ _ hp stk
  exact pcall_of (T := table) (G := glob) (f := 40) rfl rfl (s_strings_HasPrefix_0 stk _ _ _ hp)
noncomputable def p_quote_short_1 (v0 : Int) (v4 : Int) (v5 : Bool) : Option (Int × Bool) := b_quote_short_1 Prims.real   v0 v4 v5
theorem s_quote_short_1 (stk : Stk) (m : Nat) (v0 : Int) (v4 : Int) (v5 : Bool) {out} (hp : p_quote_short_1 v0 v4 v5 = some out) : atW table glob 57 true 1 [.blk 0, .sub ⟨2, [], []⟩] ⟨[(0, (.d (.int .u8 v0))), (4, (.d (.int .u8 v4))), (5, (.d (.bool v5)))], ⟨m, []⟩ :: stk⟩ = (fun (r0, r1) => (some (.ret (.d (.tup [(.int .i32 r0), (.bool r1)])), stk) : Rk')) out := by
  exact o_quote_short_1 (h := LW) (hT := rfl) (he_e_int32 := fun _ => rfl) (hz_e_int32 := fun l => LW.allsz E_int32 1 (fun a => ⟨rfl, rfl⟩) l) (he_e_uint8 := fun _ => rfl) (hz_e_uint8 := fun l => LW.allsz E_uint8 1 (fun a => ⟨rfl, rfl⟩) l)     stk m v0 v4 v5 hp
noncomputable def p_quote_short_0 (v0 : Int) : Option (Int × Bool) := b_quote_short_0 Prims.real  p_quote_short_1 v0
theorem s_quote_short_0 (stk : Stk) (m : Nat) (v0 : Int) {out} (hp : p_quote_short_0 v0 = some out) : atW table glob 57 true 0 [] ⟨[(0, (.d (.int .u8 v0)))], ⟨m, []⟩ :: stk⟩ = (fun (r0, r1) => (some (.ret (.d (.tup [(.int .i32 r0), (.bool r1)])), stk) : Rk')) out := by
  exact o_quote_short_0 (h := LW) (hT := rfl) (he_e_int32 := fun _ => rfl) (hz_e_int32 := fun l => LW.allsz E_int32 1 (fun a => ⟨rfl, rfl⟩) l) (he_e_uint8 := fun _ => rfl) (hz_e_uint8 := fun l => LW.allsz E_uint8 1 (fun a => ⟨rfl, rfl⟩) l)   (l_1 := p_quote_short_1) (h_l_1 := fun hp => s_quote_short_1 stk m _ _ _ hp) stk m v0 hp
noncomputable def p_quote_short : Int → Option (Int × Bool) := fun v0 => p_quote_short_0 v0
theorem s_quote_short : ∀ {a0 : Int} {r0 : Int} {r1 : Bool}, p_quote_short a0 = some (r0, r1) → ∀ stk, (sysW table glob).pcall 57 [(.d (.int .u8 a0))] stk = some (.d (.tup [(.int .i32 r0), (.bool r1)])) := by
  intro _ _ _ hp stk
  exact pcall_of (T := table) (G := glob) (f := 57) rfl rfl (s_quote_short_0 stk _ _ hp)
noncomputable def p_quote_digit_1  : Option (Int) := b_quote_digit_1 Prims.real   
theorem s_quote_digit_1 (stk : Stk) (m : Nat)  {out} (hp : p_quote_digit_1  = some out) : atW table glob 63 true 1 [] ⟨[], ⟨m, []⟩ :: stk⟩ = (fun r0 => (some (.ret (.d (.int .i32 r0)), stk) : Rk')) out := by
  exact o_quote_digit_1 (h := LW) (hT := rfl) (he_e_int32 := fun _ => rfl) (hz_e_int32 := fun l => LW.allsz E_int32 1 (fun a => ⟨rfl, rfl⟩) l) (he_e_uint8 := fun _ => rfl) (hz_e_uint8 := fun l => LW.allsz E_uint8 1 (fun a => ⟨rfl, rfl⟩) l)     stk m  hp
noncomputable def p_quote_digit_0 (v0 : Int) : Option (Int) := b_quote_digit_0 Prims.real  p_quote_digit_1 v0
theorem s_quote_digit_0 (stk : Stk) (m : Nat) (v0 : Int) {out} (hp : p_quote_digit_0 v0 = some out) : atW table glob 63 true 0 [] ⟨[(0, (.d (.int .u8 v0)))], ⟨m, []⟩ :: stk⟩ = (fun r0 => (some (.ret (.d (.int .i32 r0)), stk) : Rk')) out := by
  exact o_quote_digit_0 (h := LW) (hT := rfl) (he_e_int32 := fun _ => rfl) (hz_e_int32 := fun l => LW.allsz E_int32 1 (fun a => ⟨rfl, rfl⟩) l) (he_e_uint8 := fun _ => rfl) (hz_e_uint8 := fun l => LW.allsz E_uint8 1 (fun a => ⟨rfl, rfl⟩) l)   (l_1 := p_quote_digit_1) (h_l_1 := fun hp => s_quote_digit_1 stk m  hp) stk m v0 hp
noncomputable def p_quote_digit : Int → Option (Int) := fun v0 => p_quote_digit_0 v0
theorem s_quote_digit : ∀ {a0 : Int} {r0 : Int}, p_quote_digit a0 = some r0 → ∀ stk, (sysW table glob).pcall 63 [(.d (.int .u8 a0))] stk = some (.d (.int .i32 r0)) := by
  intro _ _ hp stk
  exact pcall_of (T := table) (G := glob) (f := 63) rfl rfl (s_quote_digit_0 stk _ _ hp)
noncomputable def p_quote_unit_2 (v0 : Str) (v3 : Int) (v19 : Int) : Option (Int) := Prims.real.loop (fun (s : Str × Int × Int) => match s with | (v0, v3, v19) => b_quote_unit_2 Prims.real p_quote_digit  v0 v3 v19) (v0, v3, v19)
theorem u_quote_unit_2 (v0 : Str) (v3 : Int) (v19 : Int) : p_quote_unit_2 v0 v3 v19 = match b_quote_unit_2 Prims.real p_quote_digit  v0 v3 v19 with
    | some (.inl (v0', v3', v19')) => p_quote_unit_2 v0' v3' v19'
    | some (.inr r) => some r
    | none => none := by
  show Pr.loop _ _ = _
  rw [Pr.loop_eq]
  dsimp only
  generalize b_quote_unit_2 Prims.real p_quote_digit  v0 v3 v19 = y
  cases y with
  | none => rfl
  | some y => cases y <;> rfl
theorem s_quote_unit_2 (stk : Stk) (m : Nat) (v0 : Str) (v3 : Int) (v19 : Int) {out} (hp : p_quote_unit_2 v0 v3 v19 = some out) : atW table glob 58 true 2 [.lp ⟨2, [0, 3, 19], []⟩, .blk 0, .sub ⟨6, [3], []⟩] ⟨[(0, (.d (.str v0))), (3, (.d (.int .i32 v3))), (19, (.d (.int .i64 v19)))], ⟨m, []⟩ :: stk⟩ = (fun r0 => (some (.ret (.d (.int .i32 r0)), stk) : Rk')) out := by
  refine LW.ind (fun (s : Str × Int × Int) => match s with | (v0, v3, v19) => b_quote_unit_2 Prims.real p_quote_digit  v0 v3 v19) (fun (s : Str × Int × Int) o => match s with | (v0, v3, v19) => atW table glob 58 true 2 [.lp ⟨2, [0, 3, 19], []⟩, .blk 0, .sub ⟨6, [3], []⟩] ⟨[(0, (.d (.str v0))), (3, (.d (.int .i32 v3))), (19, (.d (.int .i64 v19)))], ⟨m, []⟩ :: stk⟩ = (fun r0 => (some (.ret (.d (.int .i32 r0)), stk) : Rk')) o) (fun s r e => ?_) (fun s t r e ih => ?_) (v0, v3, v19) out hp
  · obtain ⟨v0, v3, v19⟩ := s
    exact o_quote_unit_2 (h := LW) (hT := rfl) (he_e_int32 := fun _ => rfl) (hz_e_int32 := fun l => LW.allsz E_int32 1 (fun a => ⟨rfl, rfl⟩) l) (he_e_uint8 := fun _ => rfl) (hz_e_uint8 := fun l => LW.allsz E_uint8 1 (fun a => ⟨rfl, rfl⟩) l) (c_quote_digit := p_quote_digit) (h_quote_digit := s_quote_digit)   stk m v0 v3 v19 e
  · obtain ⟨v0, v3, v19⟩ := s; obtain ⟨v0', v3', v19'⟩ := t
    exact (o_quote_unit_2 (h := LW) (hT := rfl) (he_e_int32 := fun _ => rfl) (hz_e_int32 := fun l => LW.allsz E_int32 1 (fun a => ⟨rfl, rfl⟩) l) (he_e_uint8 := fun _ => rfl) (hz_e_uint8 := fun l => LW.allsz E_uint8 1 (fun a => ⟨rfl, rfl⟩) l) (c_quote_digit := p_quote_digit) (h_quote_digit := s_quote_digit)   stk m v0 v3 v19 e).trans ih
noncomputable def p_quote_unit_0 (v0 : Str) : Option (Int) := b_quote_unit_0 Prims.real p_quote_digit p_quote_unit_2 v0
theorem s_quote_unit_0 (stk : Stk) (m : Nat) (v0 : Str) {out} (hp : p_quote_unit_0 v0 = some out) : atW table glob 58 true 0 [] ⟨[(0, (.d (.str v0)))], ⟨m, []⟩ :: stk⟩ = (fun r0 => (some (.ret (.d (.int .i32 r0)), stk) : Rk')) out := by
  exact o_quote_unit_0 (h := LW) (hT := rfl) (he_e_int32 := fun _ => rfl) (hz_e_int32 := fun l => LW.allsz E_int32 1 (fun a => ⟨rfl, rfl⟩) l) (he_e_uint8 := fun _ => rfl) (hz_e_uint8 := fun l => LW.allsz E_uint8 1 (fun a => ⟨rfl, rfl⟩) l) (c_quote_digit := p_quote_digit) (h_quote_digit := s_quote_digit) (l_2 := p_quote_unit_2) (h_l_2 := fun hp => s_quote_unit_2 stk m _ _ _ hp) stk m v0 hp
noncomputable def p_quote_unit : Str → Option (Int) := fun v0 => p_quote_unit_0 v0
theorem s_quote_unit : ∀ {a0 : Str} {r0 : Int}, p_quote_unit a0 = some r0 → ∀ stk, (sysW table glob).pcall 58 [(.d (.str a0))] stk = some (.d (.int .i32 r0)) := by
  intro _ _ hp stk
  exact pcall_of (T := table) (G := glob) (f := 58) rfl rfl (s_quote_unit_0 stk _ _ hp)
noncomputable def p_quote_escaped_2 (v0 : Str) (v6 : Int) : Option (Int × Int) := b_quote_escaped_2 Prims.real p_quote_short p_quote_unit  v0 v6
theorem s_quote_escaped_2 (stk : Stk) (m : Nat) (v0 : Str) (v6 : Int) {out} (hp : p_quote_escaped_2 v0 v6 = some out) : atW table glob 50 true 2 [] ⟨[(0, (.d (.str v0))), (6, (.d (.int .i32 v6)))], ⟨m, []⟩ :: stk⟩ = (fun (r0, r1) => (some (.ret (.d (.tup [(.int .i32 r0), (.int .i64 r1)])), stk) : Rk')) out := by
  exact o_quote_escaped_2 (h := LW) (hT := rfl) (he_e_int32 := fun _ => rfl) (hz_e_int32 := fun l => LW.allsz E_int32 1 (fun a => ⟨rfl, rfl⟩) l) (he_e_uint8 := fun _ => rfl) (hz_e_uint8 := fun l => LW.allsz E_uint8 1 (fun a => ⟨rfl, rfl⟩) l) (c_quote_short := p_quote_short) (c_quote_unit := p_quote_unit) (h_quote_short := s_quote_short) (h_quote_unit := s_quote_unit)   stk m v0 v6 hp
noncomputable def p_quote_escaped_1 (v0 : Str) : Option (Int × Int) := b_quote_escaped_1 Prims.real p_quote_short p_quote_unit p_quote_escaped_2 v0
theorem s_quote_escaped_1 (stk : Stk) (m : Nat) (v0 : Str) {out} (hp : p_quote_escaped_1 v0 = some out) : atW table glob 50 true 1 [] ⟨[(0, (.d (.str v0)))], ⟨m, []⟩ :: stk⟩ = (fun (r0, r1) => (some (.ret (.d (.tup [(.int .i32 r0), (.int .i64 r1)])), stk) : Rk')) out := by
  exact o_quote_escaped_1 (h := LW) (hT := rfl) (he_e_int32 := fun _ => rfl) (hz_e_int32 := fun l => LW.allsz E_int32 1 (fun a => ⟨rfl, rfl⟩) l) (he_e_uint8 := fun _ => rfl) (hz_e_uint8 := fun l => LW.allsz E_uint8 1 (fun a => ⟨rfl, rfl⟩) l) (c_quote_short := p_quote_short) (c_quote_unit := p_quote_unit) (h_quote_short := s_quote_short) (h_quote_unit := s_quote_unit) (l_2 := p_quote_escaped_2) (h_l_2 := fun hp => s_quote_escaped_2 stk m _ _ hp) stk m v0 hp
noncomputable def p_quote_escaped_0 (v0 : Str) : Option (Int × Int) := b_quote_escaped_0 Prims.real p_quote_short p_quote_unit p_quote_escaped_1 v0
theorem s_quote_escaped_0 (stk : Stk) (m : Nat) (v0 : Str) {out} (hp : p_quote_escaped_0 v0 = some out) : atW table glob 50 true 0 [] ⟨[(0, (.d (.str v0)))], ⟨m, []⟩ :: stk⟩ = (fun (r0, r1) => (some (.ret (.d (.tup [(.int .i32 r0), (.int .i64 r1)])), stk) : Rk')) out := by
  exact o_quote_escaped_0 (h := LW) (hT := rfl) (he_e_int32 := fun _ => rfl) (hz_e_int32 := fun l => LW.allsz E_int32 1 (fun a => ⟨rfl, rfl⟩) l) (he_e_uint8 := fun _ => rfl) (hz_e_uint8 := fun l => LW.allsz E_uint8 1 (fun a => ⟨rfl, rfl⟩) l) (c_quote_short := p_quote_short) (c_quote_unit := p_quote_unit) (h_quote_short := s_quote_short) (h_quote_unit := s_quote_unit) (l_1 := p_quote_escaped_1) (h_l_1 := fun hp => s_quote_escaped_1 stk m _ hp) stk m v0 hp
noncomputable def p_quote_escaped : Str → Option (Int × Int) := fun v0 => p_quote_escaped_0 v0
theorem s_quote_escaped : ∀ {a0 : Str} {r0 : Int} {r1 : Int}, p_quote_escaped a0 = some (r0, r1) → ∀ stk, (sysW table glob).pcall 50 [(.d (.str a0))] stk = some (.d (.tup [(.int .i32 r0), (.int .i64 r1)])) := by
  intro _ _ _ hp stk
  exact pcall_of (T := table) (G := glob) (f := 50) rfl rfl (s_quote_escaped_0 stk _ _ hp)
noncomputable def p_quote_Unquote_4 (v0 : Str) (v6 : Int) (v7 : Int) (v8 : Int) (o5_u : Bool) (o5_1_g : Nat) (o5_1_s : Str) : Option ((Str × Int × Bool × Nat × Str) ⊕ (Str × Int × Int)) := b_quote_Unquote_4 Prims.real p_unicode_utf8_DecodeRuneInString p_strings_HasPrefix p_strings_Builder_WriteRune p_strings_Builder_String p_quote_escaped  v0 v6 v7 v8 o5_u o5_1_g o5_1_s
theorem s_quote_Unquote_4 (stk : Stk) (m : Nat) (v0 : Str) (v6 : Int) (v7 : Int) (v8 : Int) (o5_u : Bool) (o5_1_g : Nat) (o5_1_s : Str) {out} (hp : p_quote_Unquote_4 v0 v6 v7 v8 o5_u o5_1_g o5_1_s = some out) : atW table glob 32 true 4 [.blk 1, .lp ⟨2, [0, 5, 6], [[5], [5, 1]]⟩, .blk 0, .sub ⟨5, [0], []⟩] ⟨[(0, (.d (.str v0))), (5, (.ref ⟨m, [5]⟩ 0)), (6, (.d (.int .i64 v6))), (7, (.d (.int .i32 v7))), (8, (.d (.int .i64 v8)))], ⟨m, [([5], (.bld 53 o5_u (.msl ⟨m, [5, 1]⟩ o5_1_g 0 0))), ([5, 1], (.hid 5 o5_1_g o5_1_s))]⟩ :: stk⟩ = (Sum.elim (fun (v0, v6, o5_u, o5_1_g, o5_1_s) => atW table glob 32 true 2 [.lp ⟨2, [0, 5, 6], [[5], [5, 1]]⟩, .blk 0, .sub ⟨5, [0], []⟩] ⟨[(0, (.d (.str v0))), (5, (.ref ⟨m, [5]⟩ 0)), (6, (.d (.int .i64 v6)))], ⟨m, [([5], (.bld 53 o5_u (.msl ⟨m, [5, 1]⟩ o5_1_g 0 0))), ([5, 1], (.hid 5 o5_1_g o5_1_s))]⟩ :: stk⟩) (fun (r0, r1, r2) => (some (.ret (.d (.tup [(.str r0), (.int .i64 r1), (.int .i64 r2)])), stk) : Rk'))) out := by
  exact o_quote_Unquote_4 (h := LW) (hT := rfl) (he_e_int32 := fun _ => rfl) (hz_e_int32 := fun l => LW.allsz E_int32 1 (fun a => ⟨rfl, rfl⟩) l) (he_e_uint8 := fun _ => rfl) (hz_e_uint8 := fun l => LW.allsz E_uint8 1 (fun a => ⟨rfl, rfl⟩) l) (c_unicode_utf8_DecodeRuneInString := p_unicode_utf8_DecodeRuneInString) (c_strings_HasPrefix := p_strings_HasPrefix) (c_strings_Builder_WriteRune := p_strings_Builder_WriteRune) (c_strings_Builder_String := p_strings_Builder_String) (c_quote_escaped := p_quote_escaped) (h_unicode_utf8_DecodeRuneInString := s_unicode_utf8_DecodeRuneInString) (h_strings_HasPrefix := s_strings_HasPrefix) (h_strings_Builder_WriteRune := s_strings_Builder_WriteRune) (h_strings_Builder_String := s_strings_Builder_String) (h_quote_escaped := s_quote_escaped)   stk m v0 v6 v7 v8 o5_u o5_1_g o5_1_s hp
noncomputable def p_quote_Unquote_2 (v0 : Str) (v6 : Int) (o5_u : Bool) (o5_1_g : Nat) (o5_1_s : Str) : Option (Str × Int × Int) := Prims.real.loop (fun (s : Str × Int × Bool × Nat × Str) => match s with | (v0, v6, o5_u, o5_1_g, o5_1_s) => b_quote_Unquote_2 Prims.real p_unicode_utf8_DecodeRuneInString p_strings_HasPrefix p_strings_Builder_WriteRune p_strings_Builder_String p_quote_escaped p_quote_Unquote_4 v0 v6 o5_u o5_1_g o5_1_s) (v0, v6, o5_u, o5_1_g, o5_1_s)
theorem u_quote_Unquote_2 (v0 : Str) (v6 : Int) (o5_u : Bool) (o5_1_g : Nat) (o5_1_s : Str) : p_quote_Unquote_2 v0 v6 o5_u o5_1_g o5_1_s = match b_quote_Unquote_2 Prims.real p_unicode_utf8_DecodeRuneInString p_strings_HasPrefix p_strings_Builder_WriteRune p_strings_Builder_String p_quote_escaped p_quote_Unquote_4 v0 v6 o5_u o5_1_g o5_1_s with
    | some (.inl (v0', v6', o5_u', o5_1_g', o5_1_s')) => p_quote_Unquote_2 v0' v6' o5_u' o5_1_g' o5_1_s'
    | some (.inr r) => some r
    | none => none := by
  show Pr.loop _ _ = _
  rw [Pr.loop_eq]
  dsimp only
  generalize b_quote_Unquote_2 Prims.real p_unicode_utf8_DecodeRuneInString p_strings_HasPrefix p_strings_Builder_WriteRune p_strings_Builder_String p_quote_escaped p_quote_Unquote_4 v0 v6 o5_u o5_1_g o5_1_s = y
  cases y with
  | none => rfl
  | some y => cases y <;> rfl
theorem s_quote_Unquote_2 (stk : Stk) (m : Nat) (v0 : Str) (v6 : Int) (o5_u : Bool) (o5_1_g : Nat) (o5_1_s : Str) {out} (hp : p_quote_Unquote_2 v0 v6 o5_u o5_1_g o5_1_s = some out) : atW table glob 32 true 2 [.lp ⟨2, [0, 5, 6], [[5], [5, 1]]⟩, .blk 0, .sub ⟨5, [0], []⟩] ⟨[(0, (.d (.str v0))), (5, (.ref ⟨m, [5]⟩ 0)), (6, (.d (.int .i64 v6)))], ⟨m, [([5], (.bld 53 o5_u (.msl ⟨m, [5, 1]⟩ o5_1_g 0 0))), ([5, 1], (.hid 5 o5_1_g o5_1_s))]⟩ :: stk⟩ = (fun (r0, r1, r2) => (some (.ret (.d (.tup [(.str r0), (.int .i64 r1), (.int .i64 r2)])), stk) : Rk')) out := by
  refine LW.ind (fun (s : Str × Int × Bool × Nat × Str) => match s with | (v0, v6, o5_u, o5_1_g, o5_1_s) => b_quote_Unquote_2 Prims.real p_unicode_utf8_DecodeRuneInString p_strings_HasPrefix p_strings_Builder_WriteRune p_strings_Builder_String p_quote_escaped p_quote_Unquote_4 v0 v6 o5_u o5_1_g o5_1_s) (fun (s : Str × Int × Bool × Nat × Str) o => match s with | (v0, v6, o5_u, o5_1_g, o5_1_s) => atW table glob 32 true 2 [.lp ⟨2, [0, 5, 6], [[5], [5, 1]]⟩, .blk 0, .sub ⟨5, [0], []⟩] ⟨[(0, (.d (.str v0))), (5, (.ref ⟨m, [5]⟩ 0)), (6, (.d (.int .i64 v6)))], ⟨m, [([5], (.bld 53 o5_u (.msl ⟨m, [5, 1]⟩ o5_1_g 0 0))), ([5, 1], (.hid 5 o5_1_g o5_1_s))]⟩ :: stk⟩ = (fun (r0, r1, r2) => (some (.ret (.d (.tup [(.str r0), (.int .i64 r1), (.int .i64 r2)])), stk) : Rk')) o) (fun s r e => ?_) (fun s t r e ih => ?_) (v0, v6, o5_u, o5_1_g, o5_1_s) out hp
  · obtain ⟨v0, v6, o5_u, o5_1_g, o5_1_s⟩ := s
    exact o_quote_Unquote_2 (h := LW) (hT := rfl) (he_e_int32 := fun _ => rfl) (hz_e_int32 := fun l => LW.allsz E_int32 1 (fun a => ⟨rfl, rfl⟩) l) (he_e_uint8 := fun _ => rfl) (hz_e_uint8 := fun l => LW.allsz E_uint8 1 (fun a => ⟨rfl, rfl⟩) l) (c_unicode_utf8_DecodeRuneInString := p_unicode_utf8_DecodeRuneInString) (c_strings_HasPrefix := p_strings_HasPrefix) (c_strings_Builder_WriteRune := p_strings_Builder_WriteRune) (c_strings_Builder_String := p_strings_Builder_String) (c_quote_escaped := p_quote_escaped) (h_unicode_utf8_DecodeRuneInString := s_unicode_utf8_DecodeRuneInString) (h_strings_HasPrefix := s_strings_HasPrefix) (h_strings_Builder_WriteRune := s_strings_Builder_WriteRune) (h_strings_Builder_String := s_strings_Builder_String) (h_quote_escaped := s_quote_escaped) (l_4 := p_quote_Unquote_4) (h_l_4 := fun hp => s_quote_Unquote_4 stk m _ _ _ _ _ _ _ hp) stk m v0 v6 o5_u o5_1_g o5_1_s e
  · obtain ⟨v0, v6, o5_u, o5_1_g, o5_1_s⟩ := s; obtain ⟨v0', v6', o5_u', o5_1_g', o5_1_s'⟩ := t
    exact (o_quote_Unquote_2 (h := LW) (hT := rfl) (he_e_int32 := fun _ => rfl) (hz_e_int32 := fun l => LW.allsz E_int32 1 (fun a => ⟨rfl, rfl⟩) l) (he_e_uint8 := fun _ => rfl) (hz_e_uint8 := fun l => LW.allsz E_uint8 1 (fun a => ⟨rfl, rfl⟩) l) (c_unicode_utf8_DecodeRuneInString := p_unicode_utf8_DecodeRuneInString) (c_strings_HasPrefix := p_strings_HasPrefix) (c_strings_Builder_WriteRune := p_strings_Builder_WriteRune) (c_strings_Builder_String := p_strings_Builder_String) (c_quote_escaped := p_quote_escaped) (h_unicode_utf8_DecodeRuneInString := s_unicode_utf8_DecodeRuneInString) (h_strings_HasPrefix := s_strings_HasPrefix) (h_strings_Builder_WriteRune := s_strings_Builder_WriteRune) (h_strings_Builder_String := s_strings_Builder_String) (h_quote_escaped := s_quote_escaped) (l_4 := p_quote_Unquote_4) (h_l_4 := fun hp => s_quote_Unquote_4 stk m _ _ _ _ _ _ _ hp) stk m v0 v6 o5_u o5_1_g o5_1_s e).trans ih
noncomputable def p_quote_Unquote_0 (v0 : Str) : Option (Str × Int × Int) := b_quote_Unquote_0 Prims.real p_unicode_utf8_DecodeRuneInString p_strings_HasPrefix p_strings_Builder_WriteRune p_strings_Builder_String p_quote_escaped p_quote_Unquote_2 v0
theorem s_quote_Unquote_0 (stk : Stk) (m : Nat) (v0 : Str) {out} (hp : p_quote_Unquote_0 v0 = some out) : atW table glob 32 true 0 [] ⟨[(0, (.d (.str v0)))], ⟨m, []⟩ :: stk⟩ = (fun (r0, r1, r2) => (some (.ret (.d (.tup [(.str r0), (.int .i64 r1), (.int .i64 r2)])), stk) : Rk')) out := by
  exact o_quote_Unquote_0 (h := LW) (hT := rfl) (he_e_int32 := fun _ => rfl) (hz_e_int32 := fun l => LW.allsz E_int32 1 (fun a => ⟨rfl, rfl⟩) l) (he_e_uint8 := fun _ => rfl) (hz_e_uint8 := fun l => LW.allsz E_uint8 1 (fun a => ⟨rfl, rfl⟩) l) (c_unicode_utf8_DecodeRuneInString := p_unicode_utf8_DecodeRuneInString) (c_strings_HasPrefix := p_strings_HasPrefix) (c_strings_Builder_WriteRune := p_strings_Builder_WriteRune) (c_strings_Builder_String := p_strings_Builder_String) (c_quote_escaped := p_quote_escaped) (h_unicode_utf8_DecodeRuneInString := s_unicode_utf8_DecodeRuneInString) (h_strings_HasPrefix := s_strings_HasPrefix) (h_strings_Builder_WriteRune := s_strings_Builder_WriteRune) (h_strings_Builder_String := s_strings_Builder_String) (h_quote_escaped := s_quote_escaped) (l_2 := p_quote_Unquote_2) (h_l_2 := fun hp => s_quote_Unquote_2 stk m _ _ _ _ _ hp) stk m v0 hp
noncomputable def p_quote_Unquote : Str → Option (Str × Int × Int) := fun v0 => p_quote_Unquote_0 v0
theorem s_quote_Unquote : ∀ {a0 : Str} {r0 : Str} {r1 : Int} {r2 : Int}, p_quote_Unquote a0 = some (r0, r1, r2) → ∀ stk, (sysW table glob).pcall 32 [(.d (.str a0))] stk = some (.d (.tup [(.str r0), (.int .i64 r1), (.int .i64 r2)])) := by
  intro _ _ _ _ hp stk
  exact pcall_of (T := table) (G := glob) (f := 32) rfl rfl (s_quote_Unquote_0 stk _ _ hp)
noncomputable def p_cascaderef02_four_6 (v0 : Str) (v1 : Int) (v5 : Int) (v6 : Int) (v8 : Int) : Option ((Str × Int × Int × Int) ⊕ (Int)) := b_cascaderef02_four_6 Prims.real   v0 v1 v5 v6 v8
theorem s_cascaderef02_four_6 (stk : Stk) (m : Nat) (v0 : Str) (v1 : Int) (v5 : Int) (v6 : Int) (v8 : Int) {out} (hp : p_cascaderef02_four_6 v0 v1 v5 v6 v8 = some out) : atW table glob 59 true 6 [.blk 1, .sub ⟨8, [0, 1, 5, 6], []⟩, .lp ⟨2, [0, 1, 5, 6], []⟩, .blk 0, .sub ⟨9, [5], []⟩] ⟨[(0, (.d (.str v0))), (1, (.d (.int .i64 v1))), (5, (.d (.int .i64 v5))), (6, (.d (.int .i64 v6))), (8, (.d (.int .i64 v8)))], ⟨m, []⟩ :: stk⟩ = (Sum.elim (fun (v0, v1, v5, v6) => atW table glob 59 true 2 [.lp ⟨2, [0, 1, 5, 6], []⟩, .blk 0, .sub ⟨9, [5], []⟩] ⟨[(0, (.d (.str v0))), (1, (.d (.int .i64 v1))), (5, (.d (.int .i64 v5))), (6, (.d (.int .i64 v6)))], ⟨m, []⟩ :: stk⟩) (fun r0 => (some (.ret (.d (.int .i64 r0)), stk) : Rk'))) out := by
  exact o_cascaderef02_four_6 (h := LW) (hT := rfl) (he_e_int32 := fun _ => rfl) (hz_e_int32 := fun l => LW.allsz E_int32 1 (fun a => ⟨rfl, rfl⟩) l) (he_e_uint8 := fun _ => rfl) (hz_e_uint8 := fun l => LW.allsz E_uint8 1 (fun a => ⟨rfl, rfl⟩) l)     stk m v0 v1 v5 v6 v8 hp
noncomputable def p_cascaderef02_four_5 (v0 : Str) (v1 : Int) (v5 : Int) (v6 : Int) (v7 : Int) (v8 : Int) : Option ((Str × Int × Int × Int) ⊕ (Int)) := b_cascaderef02_four_5 Prims.real  p_cascaderef02_four_6 v0 v1 v5 v6 v7 v8
theorem s_cascaderef02_four_5 (stk : Stk) (m : Nat) (v0 : Str) (v1 : Int) (v5 : Int) (v6 : Int) (v7 : Int) (v8 : Int) {out} (hp : p_cascaderef02_four_5 v0 v1 v5 v6 v7 v8 = some out) : atW table glob 59 true 5 [.blk 1, .sub ⟨8, [0, 1, 5, 6], []⟩, .lp ⟨2, [0, 1, 5, 6], []⟩, .blk 0, .sub ⟨9, [5], []⟩] ⟨[(0, (.d (.str v0))), (1, (.d (.int .i64 v1))), (5, (.d (.int .i64 v5))), (6, (.d (.int .i64 v6))), (7, (.d (.int .i64 v7))), (8, (.d (.int .i64 v8)))], ⟨m, []⟩ :: stk⟩ = (Sum.elim (fun (v0, v1, v5, v6) => atW table glob 59 true 2 [.lp ⟨2, [0, 1, 5, 6], []⟩, .blk 0, .sub ⟨9, [5], []⟩] ⟨[(0, (.d (.str v0))), (1, (.d (.int .i64 v1))), (5, (.d (.int .i64 v5))), (6, (.d (.int .i64 v6)))], ⟨m, []⟩ :: stk⟩) (fun r0 => (some (.ret (.d (.int .i64 r0)), stk) : Rk'))) out := by
  exact o_cascaderef02_four_5 (h := LW) (hT := rfl) (he_e_int32 := fun _ => rfl) (hz_e_int32 := fun l => LW.allsz E_int32 1 (fun a => ⟨rfl, rfl⟩) l) (he_e_uint8 := fun _ => rfl) (hz_e_uint8 := fun l => LW.allsz E_uint8 1 (fun a => ⟨rfl, rfl⟩) l)   (l_6 := p_cascaderef02_four_6) (h_l_6 := fun hp => s_cascaderef02_four_6 stk m _ _ _ _ _ hp) stk m v0 v1 v5 v6 v7 v8 hp
noncomputable def p_cascaderef02_four_4 (v0 : Str) (v1 : Int) (v5 : Int) (v6 : Int) (v7 : Int) (v8 : Int) : Option ((Str × Int × Int × Int) ⊕ (Int)) := b_cascaderef02_four_4 Prims.real  p_cascaderef02_four_5 v0 v1 v5 v6 v7 v8
theorem s_cascaderef02_four_4 (stk : Stk) (m : Nat) (v0 : Str) (v1 : Int) (v5 : Int) (v6 : Int) (v7 : Int) (v8 : Int) {out} (hp : p_cascaderef02_four_4 v0 v1 v5 v6 v7 v8 = some out) : atW table glob 59 true 4 [.blk 1, .sub ⟨8, [0, 1, 5, 6], []⟩, .lp ⟨2, [0, 1, 5, 6], []⟩, .blk 0, .sub ⟨9, [5], []⟩] ⟨[(0, (.d (.str v0))), (1, (.d (.int .i64 v1))), (5, (.d (.int .i64 v5))), (6, (.d (.int .i64 v6))), (7, (.d (.int .i64 v7))), (8, (.d (.int .i64 v8)))], ⟨m, []⟩ :: stk⟩ = (Sum.elim (fun (v0, v1, v5, v6) => atW table glob 59 true 2 [.lp ⟨2, [0, 1, 5, 6], []⟩, .blk 0, .sub ⟨9, [5], []⟩] ⟨[(0, (.d (.str v0))), (1, (.d (.int .i64 v1))), (5, (.d (.int .i64 v5))), (6, (.d (.int .i64 v6)))], ⟨m, []⟩ :: stk⟩) (fun r0 => (some (.ret (.d (.int .i64 r0)), stk) : Rk'))) out := by
  exact o_cascaderef02_four_4 (h := LW) (hT := rfl) (he_e_int32 := fun _ => rfl) (hz_e_int32 := fun l => LW.allsz E_int32 1 (fun a => ⟨rfl, rfl⟩) l) (he_e_uint8 := fun _ => rfl) (hz_e_uint8 := fun l => LW.allsz E_uint8 1 (fun a => ⟨rfl, rfl⟩) l)   (l_5 := p_cascaderef02_four_5) (h_l_5 := fun hp => s_cascaderef02_four_5 stk m _ _ _ _ _ _ hp) stk m v0 v1 v5 v6 v7 v8 hp
noncomputable def p_cascaderef02_four_2 (v0 : Str) (v1 : Int) (v5 : Int) (v6 : Int) : Option (Int) := Prims.real.loop (fun (s : Str × Int × Int × Int) => match s with | (v0, v1, v5, v6) => b_cascaderef02_four_2 Prims.real  p_cascaderef02_four_4 v0 v1 v5 v6) (v0, v1, v5, v6)
theorem u_cascaderef02_four_2 (v0 : Str) (v1 : Int) (v5 : Int) (v6 : Int) : p_cascaderef02_four_2 v0 v1 v5 v6 = match b_cascaderef02_four_2 Prims.real  p_cascaderef02_four_4 v0 v1 v5 v6 with
    | some (.inl (v0', v1', v5', v6')) => p_cascaderef02_four_2 v0' v1' v5' v6'
    | some (.inr r) => some r
    | none => none := by
  show Pr.loop _ _ = _
  rw [Pr.loop_eq]
  dsimp only
  generalize b_cascaderef02_four_2 Prims.real  p_cascaderef02_four_4 v0 v1 v5 v6 = y
  cases y with
  | none => rfl
  | some y => cases y <;> rfl
theorem s_cascaderef02_four_2 (stk : Stk) (m : Nat) (v0 : Str) (v1 : Int) (v5 : Int) (v6 : Int) {out} (hp : p_cascaderef02_four_2 v0 v1 v5 v6 = some out) : atW table glob 59 true 2 [.lp ⟨2, [0, 1, 5, 6], []⟩, .blk 0, .sub ⟨9, [5], []⟩] ⟨[(0, (.d (.str v0))), (1, (.d (.int .i64 v1))), (5, (.d (.int .i64 v5))), (6, (.d (.int .i64 v6)))], ⟨m, []⟩ :: stk⟩ = (fun r0 => (some (.ret (.d (.int .i64 r0)), stk) : Rk')) out := by
  refine LW.ind (fun (s : Str × Int × Int × Int) => match s with | (v0, v1, v5, v6) => b_cascaderef02_four_2 Prims.real  p_cascaderef02_four_4 v0 v1 v5 v6) (fun (s : Str × Int × Int × Int) o => match s with | (v0, v1, v5, v6) => atW table glob 59 true 2 [.lp ⟨2, [0, 1, 5, 6], []⟩, .blk 0, .sub ⟨9, [5], []⟩] ⟨[(0, (.d (.str v0))), (1, (.d (.int .i64 v1))), (5, (.d (.int .i64 v5))), (6, (.d (.int .i64 v6)))], ⟨m, []⟩ :: stk⟩ = (fun r0 => (some (.ret (.d (.int .i64 r0)), stk) : Rk')) o) (fun s r e => ?_) (fun s t r e ih => ?_) (v0, v1, v5, v6) out hp
  · obtain ⟨v0, v1, v5, v6⟩ := s
    exact o_cascaderef02_four_2 (h := LW) (hT := rfl) (he_e_int32 := fun _ => rfl) (hz_e_int32 := fun l => LW.allsz E_int32 1 (fun a => ⟨rfl, rfl⟩) l) (he_e_uint8 := fun _ => rfl) (hz_e_uint8 := fun l => LW.allsz E_uint8 1 (fun a => ⟨rfl, rfl⟩) l)   (l_4 := p_cascaderef02_four_4) (h_l_4 := fun hp => s_cascaderef02_four_4 stk m _ _ _ _ _ _ hp) stk m v0 v1 v5 v6 e
  · obtain ⟨v0, v1, v5, v6⟩ := s; obtain ⟨v0', v1', v5', v6'⟩ := t
    exact (o_cascaderef02_four_2 (h := LW) (hT := rfl) (he_e_int32 := fun _ => rfl) (hz_e_int32 := fun l => LW.allsz E_int32 1 (fun a => ⟨rfl, rfl⟩) l) (he_e_uint8 := fun _ => rfl) (hz_e_uint8 := fun l => LW.allsz E_uint8 1 (fun a => ⟨rfl, rfl⟩) l)   (l_4 := p_cascaderef02_four_4) (h_l_4 := fun hp => s_cascaderef02_four_4 stk m _ _ _ _ _ _ hp) stk m v0 v1 v5 v6 e).trans ih
noncomputable def p_cascaderef02_four_0 (v0 : Str) (v1 : Int) : Option (Int) := b_cascaderef02_four_0 Prims.real  p_cascaderef02_four_2 v0 v1
theorem s_cascaderef02_four_0 (stk : Stk) (m : Nat) (v0 : Str) (v1 : Int) {out} (hp : p_cascaderef02_four_0 v0 v1 = some out) : atW table glob 59 true 0 [] ⟨[(0, (.d (.str v0))), (1, (.d (.int .i64 v1)))], ⟨m, []⟩ :: stk⟩ = (fun r0 => (some (.ret (.d (.int .i64 r0)), stk) : Rk')) out := by
  exact o_cascaderef02_four_0 (h := LW) (hT := rfl) (he_e_int32 := fun _ => rfl) (hz_e_int32 := fun l => LW.allsz E_int32 1 (fun a => ⟨rfl, rfl⟩) l) (he_e_uint8 := fun _ => rfl) (hz_e_uint8 := fun l => LW.allsz E_uint8 1 (fun a => ⟨rfl, rfl⟩) l)   (l_2 := p_cascaderef02_four_2) (h_l_2 := fun hp => s_cascaderef02_four_2 stk m _ _ _ _ hp) stk m v0 v1 hp
noncomputable def p_cascaderef02_four : Str → Int → Option (Int) := fun v0 v1 => p_cascaderef02_four_0 v0 v1
theorem s_cascaderef02_four : ∀ {a0 : Str} {a1 : Int} {r0 : Int}, p_cascaderef02_four a0 a1 = some r0 → ∀ stk, (sysW table glob).pcall 59 [(.d (.str a0)), (.d (.int .i64 a1))] stk = some (.d (.int .i64 r0)) := by
  intro _ _ _ hp stk
  exact pcall_of (T := table) (G := glob) (f := 59) rfl rfl (s_cascaderef02_four_0 stk _ _ _ hp)
noncomputable def p_cascaderef02_sign_2 (v0 : Str) (v1 : Int) (v6 : Int) (v7 : Str) (v8 : Str) (v9 : Int) : Option (Int × Int) := Prims.real.loop (fun (s : Str × Int × Int × Str × Str × Int) => match s with | (v0, v1, v6, v7, v8, v9) => b_cascaderef02_sign_2 Prims.real p_cascaderef02_four  v0 v1 v6 v7 v8 v9) (v0, v1, v6, v7, v8, v9)
theorem u_cascaderef02_sign_2 (v0 : Str) (v1 : Int) (v6 : Int) (v7 : Str) (v8 : Str) (v9 : Int) : p_cascaderef02_sign_2 v0 v1 v6 v7 v8 v9 = match b_cascaderef02_sign_2 Prims.real p_cascaderef02_four  v0 v1 v6 v7 v8 v9 with
    | some (.inl (v0', v1', v6', v7', v8', v9')) => p_cascaderef02_sign_2 v0' v1' v6' v7' v8' v9'
    | some (.inr r) => some r
    | none => none := by
  show Pr.loop _ _ = _
  rw [Pr.loop_eq]
  dsimp only
  generalize b_cascaderef02_sign_2 Prims.real p_cascaderef02_four  v0 v1 v6 v7 v8 v9 = y
  cases y with
  | none => rfl
  | some y => cases y <;> rfl
theorem s_cascaderef02_sign_2 (stk : Stk) (m : Nat) (v0 : Str) (v1 : Int) (v6 : Int) (v7 : Str) (v8 : Str) (v9 : Int) {out} (hp : p_cascaderef02_sign_2 v0 v1 v6 v7 v8 v9 = some out) : atW table glob 51 true 2 [.lp ⟨2, [0, 1, 6, 7, 8, 9], []⟩, .blk 0, .sub ⟨5, [0, 1, 6], []⟩] ⟨[(0, (.d (.str v0))), (1, (.d (.int .i64 v1))), (6, (.d (.int .u8 v6))), (7, (.d (.str v7))), (8, (.d (.str v8))), (9, (.d (.int .i64 v9)))], ⟨m, []⟩ :: stk⟩ = (fun (r0, r1) => (some (.ret (.d (.tup [(.int .i32 r0), (.int .i64 r1)])), stk) : Rk')) out := by
  refine LW.ind (fun (s : Str × Int × Int × Str × Str × Int) => match s with | (v0, v1, v6, v7, v8, v9) => b_cascaderef02_sign_2 Prims.real p_cascaderef02_four  v0 v1 v6 v7 v8 v9) (fun (s : Str × Int × Int × Str × Str × Int) o => match s with | (v0, v1, v6, v7, v8, v9) => atW table glob 51 true 2 [.lp ⟨2, [0, 1, 6, 7, 8, 9], []⟩, .blk 0, .sub ⟨5, [0, 1, 6], []⟩] ⟨[(0, (.d (.str v0))), (1, (.d (.int .i64 v1))), (6, (.d (.int .u8 v6))), (7, (.d (.str v7))), (8, (.d (.str v8))), (9, (.d (.int .i64 v9)))], ⟨m, []⟩ :: stk⟩ = (fun (r0, r1) => (some (.ret (.d (.tup [(.int .i32 r0), (.int .i64 r1)])), stk) : Rk')) o) (fun s r e => ?_) (fun s t r e ih => ?_) (v0, v1, v6, v7, v8, v9) out hp
  · obtain ⟨v0, v1, v6, v7, v8, v9⟩ := s
    exact o_cascaderef02_sign_2 (h := LW) (hT := rfl) (he_e_int32 := fun _ => rfl) (hz_e_int32 := fun l => LW.allsz E_int32 1 (fun a => ⟨rfl, rfl⟩) l) (he_e_uint8 := fun _ => rfl) (hz_e_uint8 := fun l => LW.allsz E_uint8 1 (fun a => ⟨rfl, rfl⟩) l) (c_cascaderef02_four := p_cascaderef02_four) (h_cascaderef02_four := s_cascaderef02_four)   stk m v0 v1 v6 v7 v8 v9 e
  · obtain ⟨v0, v1, v6, v7, v8, v9⟩ := s; obtain ⟨v0', v1', v6', v7', v8', v9'⟩ := t
    exact (o_cascaderef02_sign_2 (h := LW) (hT := rfl) (he_e_int32 := fun _ => rfl) (hz_e_int32 := fun l => LW.allsz E_int32 1 (fun a => ⟨rfl, rfl⟩) l) (he_e_uint8 := fun _ => rfl) (hz_e_uint8 := fun l => LW.allsz E_uint8 1 (fun a => ⟨rfl, rfl⟩) l) (c_cascaderef02_four := p_cascaderef02_four) (h_cascaderef02_four := s_cascaderef02_four)   stk m v0 v1 v6 v7 v8 v9 e).trans ih
noncomputable def p_cascaderef02_sign_0 (v0 : Str) (v1 : Int) : Option (Int × Int) := b_cascaderef02_sign_0 Prims.real p_cascaderef02_four p_cascaderef02_sign_2 v0 v1
theorem s_cascaderef02_sign_0 (stk : Stk) (m : Nat) (v0 : Str) (v1 : Int) {out} (hp : p_cascaderef02_sign_0 v0 v1 = some out) : atW table glob 51 true 0 [] ⟨[(0, (.d (.str v0))), (1, (.d (.int .i64 v1)))], ⟨m, []⟩ :: stk⟩ = (fun (r0, r1) => (some (.ret (.d (.tup [(.int .i32 r0), (.int .i64 r1)])), stk) : Rk')) out := by
  exact o_cascaderef02_sign_0 (h := LW) (hT := rfl) (he_e_int32 := fun _ => rfl) (hz_e_int32 := fun l => LW.allsz E_int32 1 (fun a => ⟨rfl, rfl⟩) l) (he_e_uint8 := fun _ => rfl) (hz_e_uint8 := fun l => LW.allsz E_uint8 1 (fun a => ⟨rfl, rfl⟩) l) (c_cascaderef02_four := p_cascaderef02_four) (h_cascaderef02_four := s_cascaderef02_four) (l_2 := p_cascaderef02_sign_2) (h_l_2 := fun hp => s_cascaderef02_sign_2 stk m _ _ _ _ _ _ hp) stk m v0 v1 hp
noncomputable def p_cascaderef02_sign : Str → Int → Option (Int × Int) := fun v0 v1 => p_cascaderef02_sign_0 v0 v1
theorem s_cascaderef02_sign : ∀ {a0 : Str} {a1 : Int} {r0 : Int} {r1 : Int}, p_cascaderef02_sign a0 a1 = some (r0, r1) → ∀ stk, (sysW table glob).pcall 51 [(.d (.str a0)), (.d (.int .i64 a1))] stk = some (.d (.tup [(.int .i32 r0), (.int .i64 r1)])) := by
  intro _ _ _ _ hp stk
  exact pcall_of (T := table) (G := glob) (f := 51) rfl rfl (s_cascaderef02_sign_0 stk _ _ _ hp)
noncomputable def p_cascaderef02_Unquote_2 (v0 : Str) (v5 : Str) (v6 : Int) : Option (Str × Int × Int) := Prims.real.loop (fun (s : Str × Str × Int) => match s with | (v0, v5, v6) => b_cascaderef02_Unquote_2 Prims.real p_cascaderef01_Size p_cascaderef01_Rune p_cascaderef02_sign  v0 v5 v6) (v0, v5, v6)
theorem u_cascaderef02_Unquote_2 (v0 : Str) (v5 : Str) (v6 : Int) : p_cascaderef02_Unquote_2 v0 v5 v6 = match b_cascaderef02_Unquote_2 Prims.real p_cascaderef01_Size p_cascaderef01_Rune p_cascaderef02_sign  v0 v5 v6 with
    | some (.inl (v0', v5', v6')) => p_cascaderef02_Unquote_2 v0' v5' v6'
    | some (.inr r) => some r
    | none => none := by
  show Pr.loop _ _ = _
  rw [Pr.loop_eq]
  dsimp only
  generalize b_cascaderef02_Unquote_2 Prims.real p_cascaderef01_Size p_cascaderef01_Rune p_cascaderef02_sign  v0 v5 v6 = y
  cases y with
  | none => rfl
  | some y => cases y <;> rfl
theorem s_cascaderef02_Unquote_2 (stk : Stk) (m : Nat) (v0 : Str) (v5 : Str) (v6 : Int) {out} (hp : p_cascaderef02_Unquote_2 v0 v5 v6 = some out) : atW table glob 33 true 2 [.lp ⟨2, [0, 5, 6], []⟩, .blk 0, .sub ⟨9, [0], []⟩] ⟨[(0, (.d (.str v0))), (5, (.d (.str v5))), (6, (.d (.int .i64 v6)))], ⟨m, []⟩ :: stk⟩ = (fun (r0, r1, r2) => (some (.ret (.d (.tup [(.str r0), (.int .i64 r1), (.int .i64 r2)])), stk) : Rk')) out := by
  refine LW.ind (fun (s : Str × Str × Int) => match s with | (v0, v5, v6) => b_cascaderef02_Unquote_2 Prims.real p_cascaderef01_Size p_cascaderef01_Rune p_cascaderef02_sign  v0 v5 v6) (fun (s : Str × Str × Int) o => match s with | (v0, v5, v6) => atW table glob 33 true 2 [.lp ⟨2, [0, 5, 6], []⟩, .blk 0, .sub ⟨9, [0], []⟩] ⟨[(0, (.d (.str v0))), (5, (.d (.str v5))), (6, (.d (.int .i64 v6)))], ⟨m, []⟩ :: stk⟩ = (fun (r0, r1, r2) => (some (.ret (.d (.tup [(.str r0), (.int .i64 r1), (.int .i64 r2)])), stk) : Rk')) o) (fun s r e => ?_) (fun s t r e ih => ?_) (v0, v5, v6) out hp
  · obtain ⟨v0, v5, v6⟩ := s
    exact o_cascaderef02_Unquote_2 (h := LW) (hT := rfl) (he_e_int32 := fun _ => rfl) (hz_e_int32 := fun l => LW.allsz E_int32 1 (fun a => ⟨rfl, rfl⟩) l) (he_e_uint8 := fun _ => rfl) (hz_e_uint8 := fun l => LW.allsz E_uint8 1 (fun a => ⟨rfl, rfl⟩) l) (c_cascaderef01_Size := p_cascaderef01_Size) (c_cascaderef01_Rune := p_cascaderef01_Rune) (c_cascaderef02_sign := p_cascaderef02_sign) (h_cascaderef01_Size := s_cascaderef01_Size) (h_cascaderef01_Rune := s_cascaderef01_Rune) (h_cascaderef02_sign := s_cascaderef02_sign)   stk m v0 v5 v6 e
  · obtain ⟨v0, v5, v6⟩ := s; obtain ⟨v0', v5', v6'⟩ := t
    exact (o_cascaderef02_Unquote_2 (h := LW) (hT := rfl) (he_e_int32 := fun _ => rfl) (hz_e_int32 := fun l => LW.allsz E_int32 1 (fun a => ⟨rfl, rfl⟩) l) (he_e_uint8 := fun _ => rfl) (hz_e_uint8 := fun l => LW.allsz E_uint8 1 (fun a => ⟨rfl, rfl⟩) l) (c_cascaderef01_Size := p_cascaderef01_Size) (c_cascaderef01_Rune := p_cascaderef01_Rune) (c_cascaderef02_sign := p_cascaderef02_sign) (h_cascaderef01_Size := s_cascaderef01_Size) (h_cascaderef01_Rune := s_cascaderef01_Rune) (h_cascaderef02_sign := s_cascaderef02_sign)   stk m v0 v5 v6 e).trans ih
noncomputable def p_cascaderef02_Unquote_0 (v0 : Str) : Option (Str × Int × Int) := b_cascaderef02_Unquote_0 Prims.real p_cascaderef01_Size p_cascaderef01_Rune p_cascaderef02_sign p_cascaderef02_Unquote_2 v0
theorem s_cascaderef02_Unquote_0 (stk : Stk) (m : Nat) (v0 : Str) {out} (hp : p_cascaderef02_Unquote_0 v0 = some out) : atW table glob 33 true 0 [] ⟨[(0, (.d (.str v0)))], ⟨m, []⟩ :: stk⟩ = (fun (r0, r1, r2) => (some (.ret (.d (.tup [(.str r0), (.int .i64 r1), (.int .i64 r2)])), stk) : Rk')) out := by
  exact o_cascaderef02_Unquote_0 (h := LW) (hT := rfl) (he_e_int32 := fun _ => rfl) (hz_e_int32 := fun l => LW.allsz E_int32 1 (fun a => ⟨rfl, rfl⟩) l) (he_e_uint8 := fun _ => rfl) (hz_e_uint8 := fun l => LW.allsz E_uint8 1 (fun a => ⟨rfl, rfl⟩) l) (c_cascaderef01_Size := p_cascaderef01_Size) (c_cascaderef01_Rune := p_cascaderef01_Rune) (c_cascaderef02_sign := p_cascaderef02_sign) (h_cascaderef01_Size := s_cascaderef01_Size) (h_cascaderef01_Rune := s_cascaderef01_Rune) (h_cascaderef02_sign := s_cascaderef02_sign) (l_2 := p_cascaderef02_Unquote_2) (h_l_2 := fun hp => s_cascaderef02_Unquote_2 stk m _ _ _ hp) stk m v0 hp
noncomputable def p_cascaderef02_Unquote : Str → Option (Str × Int × Int) := fun v0 => p_cascaderef02_Unquote_0 v0
theorem s_cascaderef02_Unquote : ∀ {a0 : Str} {r0 : Str} {r1 : Int} {r2 : Int}, p_cascaderef02_Unquote a0 = some (r0, r1, r2) → ∀ stk, (sysW table glob).pcall 33 [(.d (.str a0))] stk = some (.d (.tup [(.str r0), (.int .i64 r1), (.int .i64 r2)])) := by
  intro _ _ _ _ hp stk
  exact pcall_of (T := table) (G := glob) (f := 33) rfl rfl (s_cascaderef02_Unquote_0 stk _ _ hp)
noncomputable def p_cascadelaw02_QuoteReads_0 (v0 : Str) : Option (Bool) := b_cascadelaw02_QuoteReads_0 Prims.real p_cascadelaw02_awake p_quote_Unquote p_cascaderef02_Unquote  v0
theorem s_cascadelaw02_QuoteReads_0 (stk : Stk) (m : Nat) (v0 : Str) {out} (hp : p_cascadelaw02_QuoteReads_0 v0 = some out) : atW table glob 11 true 0 [] ⟨[(0, (.d (.str v0)))], ⟨m, []⟩ :: stk⟩ = (fun r0 => (some (.ret (.d (.bool r0)), stk) : Rk')) out := by
  exact o_cascadelaw02_QuoteReads_0 (h := LW) (hT := rfl) (he_e_int32 := fun _ => rfl) (hz_e_int32 := fun l => LW.allsz E_int32 1 (fun a => ⟨rfl, rfl⟩) l) (he_e_uint8 := fun _ => rfl) (hz_e_uint8 := fun l => LW.allsz E_uint8 1 (fun a => ⟨rfl, rfl⟩) l) (c_cascadelaw02_awake := p_cascadelaw02_awake) (c_quote_Unquote := p_quote_Unquote) (c_cascaderef02_Unquote := p_cascaderef02_Unquote) (h_cascadelaw02_awake := s_cascadelaw02_awake) (h_quote_Unquote := s_quote_Unquote) (h_cascaderef02_Unquote := s_cascaderef02_Unquote)   stk m v0 hp
noncomputable def p_cascadelaw02_QuoteReads : Str → Option (Bool) := fun v0 => p_cascadelaw02_QuoteReads_0 v0
theorem s_cascadelaw02_QuoteReads : ∀ {a0 : Str} {r0 : Bool}, p_cascadelaw02_QuoteReads a0 = some r0 → ∀ stk, (sysW table glob).pcall 11 [(.d (.str a0))] stk = some (.d (.bool r0)) := by
  intro _ _ hp stk
  exact pcall_of (T := table) (G := glob) (f := 11) rfl rfl (s_cascadelaw02_QuoteReads_0 stk _ _ hp)
noncomputable def p_cascadelaw02_QuoteBack_0 (v0 : Str) (v1 : Str) : Option (Bool) := b_cascadelaw02_QuoteBack_0 Prims.real p_cascadelaw02_awake p_quote_Quote p_cascaderef01_Right p_quote_Unquote  v0 v1
theorem s_cascadelaw02_QuoteBack_0 (stk : Stk) (m : Nat) (v0 : Str) (v1 : Str) {out} (hp : p_cascadelaw02_QuoteBack_0 v0 v1 = some out) : atW table glob 12 true 0 [] ⟨[(0, (.d (.str v0))), (1, (.d (.str v1)))], ⟨m, []⟩ :: stk⟩ = (fun r0 => (some (.ret (.d (.bool r0)), stk) : Rk')) out := by
  exact o_cascadelaw02_QuoteBack_0 (h := LW) (hT := rfl) (he_e_int32 := fun _ => rfl) (hz_e_int32 := fun l => LW.allsz E_int32 1 (fun a => ⟨rfl, rfl⟩) l) (he_e_uint8 := fun _ => rfl) (hz_e_uint8 := fun l => LW.allsz E_uint8 1 (fun a => ⟨rfl, rfl⟩) l) (c_cascadelaw02_awake := p_cascadelaw02_awake) (c_quote_Quote := p_quote_Quote) (c_cascaderef01_Right := p_cascaderef01_Right) (c_quote_Unquote := p_quote_Unquote) (h_cascadelaw02_awake := s_cascadelaw02_awake) (h_quote_Quote := s_quote_Quote) (h_cascaderef01_Right := s_cascaderef01_Right) (h_quote_Unquote := s_quote_Unquote)   stk m v0 v1 hp
noncomputable def p_cascadelaw02_QuoteBack : Str → Str → Option (Bool) := fun v0 v1 => p_cascadelaw02_QuoteBack_0 v0 v1
theorem s_cascadelaw02_QuoteBack : ∀ {a0 : Str} {a1 : Str} {r0 : Bool}, p_cascadelaw02_QuoteBack a0 a1 = some r0 → ∀ stk, (sysW table glob).pcall 12 [(.d (.str a0)), (.d (.str a1))] stk = some (.d (.bool r0)) := by
  intro _ _ _ hp stk
  exact pcall_of (T := table) (G := glob) (f := 12) rfl rfl (s_cascadelaw02_QuoteBack_0 stk _ _ _ hp)
noncomputable def p_cascadelaw02_QuoteCuts_2 (v0 : Str) (v1 : Int) (v5 : Int) : Option (Bool) := Prims.real.loop (fun (s : Str × Int × Int) => match s with | (v0, v1, v5) => b_cascadelaw02_QuoteCuts_2 Prims.real p_cascadelaw02_awake p_quote_Quote p_quote_Unquote  v0 v1 v5) (v0, v1, v5)
theorem u_cascadelaw02_QuoteCuts_2 (v0 : Str) (v1 : Int) (v5 : Int) : p_cascadelaw02_QuoteCuts_2 v0 v1 v5 = match b_cascadelaw02_QuoteCuts_2 Prims.real p_cascadelaw02_awake p_quote_Quote p_quote_Unquote  v0 v1 v5 with
    | some (.inl (v0', v1', v5')) => p_cascadelaw02_QuoteCuts_2 v0' v1' v5'
    | some (.inr r) => some r
    | none => none := by
  show Pr.loop _ _ = _
  rw [Pr.loop_eq]
  dsimp only
  generalize b_cascadelaw02_QuoteCuts_2 Prims.real p_cascadelaw02_awake p_quote_Quote p_quote_Unquote  v0 v1 v5 = y
  cases y with
  | none => rfl
  | some y => cases y <;> rfl
theorem s_cascadelaw02_QuoteCuts_2 (stk : Stk) (m : Nat) (v0 : Str) (v1 : Int) (v5 : Int) {out} (hp : p_cascadelaw02_QuoteCuts_2 v0 v1 v5 = some out) : atW table glob 13 true 2 [.lp ⟨2, [0, 1, 5], []⟩, .blk 0, .sub ⟨5, [0, 1], []⟩] ⟨[(0, (.d (.str v0))), (1, (.d (.int .u16 v1))), (5, (.d (.int .i64 v5)))], ⟨m, []⟩ :: stk⟩ = (fun r0 => (some (.ret (.d (.bool r0)), stk) : Rk')) out := by
  refine LW.ind (fun (s : Str × Int × Int) => match s with | (v0, v1, v5) => b_cascadelaw02_QuoteCuts_2 Prims.real p_cascadelaw02_awake p_quote_Quote p_quote_Unquote  v0 v1 v5) (fun (s : Str × Int × Int) o => match s with | (v0, v1, v5) => atW table glob 13 true 2 [.lp ⟨2, [0, 1, 5], []⟩, .blk 0, .sub ⟨5, [0, 1], []⟩] ⟨[(0, (.d (.str v0))), (1, (.d (.int .u16 v1))), (5, (.d (.int .i64 v5)))], ⟨m, []⟩ :: stk⟩ = (fun r0 => (some (.ret (.d (.bool r0)), stk) : Rk')) o) (fun s r e => ?_) (fun s t r e ih => ?_) (v0, v1, v5) out hp
  · obtain ⟨v0, v1, v5⟩ := s
    exact o_cascadelaw02_QuoteCuts_2 (h := LW) (hT := rfl) (he_e_int32 := fun _ => rfl) (hz_e_int32 := fun l => LW.allsz E_int32 1 (fun a => ⟨rfl, rfl⟩) l) (he_e_uint8 := fun _ => rfl) (hz_e_uint8 := fun l => LW.allsz E_uint8 1 (fun a => ⟨rfl, rfl⟩) l) (c_cascadelaw02_awake := p_cascadelaw02_awake) (c_quote_Quote := p_quote_Quote) (c_quote_Unquote := p_quote_Unquote) (h_cascadelaw02_awake := s_cascadelaw02_awake) (h_quote_Quote := s_quote_Quote) (h_quote_Unquote := s_quote_Unquote)   stk m v0 v1 v5 e
  · obtain ⟨v0, v1, v5⟩ := s; obtain ⟨v0', v1', v5'⟩ := t
    exact (o_cascadelaw02_QuoteCuts_2 (h := LW) (hT := rfl) (he_e_int32 := fun _ => rfl) (hz_e_int32 := fun l => LW.allsz E_int32 1 (fun a => ⟨rfl, rfl⟩) l) (he_e_uint8 := fun _ => rfl) (hz_e_uint8 := fun l => LW.allsz E_uint8 1 (fun a => ⟨rfl, rfl⟩) l) (c_cascadelaw02_awake := p_cascadelaw02_awake) (c_quote_Quote := p_quote_Quote) (c_quote_Unquote := p_quote_Unquote) (h_cascadelaw02_awake := s_cascadelaw02_awake) (h_quote_Quote := s_quote_Quote) (h_quote_Unquote := s_quote_Unquote)   stk m v0 v1 v5 e).trans ih
noncomputable def p_cascadelaw02_QuoteCuts_0 (v0 : Str) (v1 : Int) : Option (Bool) := b_cascadelaw02_QuoteCuts_0 Prims.real p_cascadelaw02_awake p_quote_Quote p_quote_Unquote p_cascadelaw02_QuoteCuts_2 v0 v1
theorem s_cascadelaw02_QuoteCuts_0 (stk : Stk) (m : Nat) (v0 : Str) (v1 : Int) {out} (hp : p_cascadelaw02_QuoteCuts_0 v0 v1 = some out) : atW table glob 13 true 0 [] ⟨[(0, (.d (.str v0))), (1, (.d (.int .u16 v1)))], ⟨m, []⟩ :: stk⟩ = (fun r0 => (some (.ret (.d (.bool r0)), stk) : Rk')) out := by
  exact o_cascadelaw02_QuoteCuts_0 (h := LW) (hT := rfl) (he_e_int32 := fun _ => rfl) (hz_e_int32 := fun l => LW.allsz E_int32 1 (fun a => ⟨rfl, rfl⟩) l) (he_e_uint8 := fun _ => rfl) (hz_e_uint8 := fun l => LW.allsz E_uint8 1 (fun a => ⟨rfl, rfl⟩) l) (c_cascadelaw02_awake := p_cascadelaw02_awake) (c_quote_Quote := p_quote_Quote) (c_quote_Unquote := p_quote_Unquote) (h_cascadelaw02_awake := s_cascadelaw02_awake) (h_quote_Quote := s_quote_Quote) (h_quote_Unquote := s_quote_Unquote) (l_2 := p_cascadelaw02_QuoteCuts_2) (h_l_2 := fun hp => s_cascadelaw02_QuoteCuts_2 stk m _ _ _ hp) stk m v0 v1 hp
noncomputable def p_cascadelaw02_QuoteCuts : Str → Int → Option (Bool) := fun v0 v1 => p_cascadelaw02_QuoteCuts_0 v0 v1
theorem s_cascadelaw02_QuoteCuts : ∀ {a0 : Str} {a1 : Int} {r0 : Bool}, p_cascadelaw02_QuoteCuts a0 a1 = some r0 → ∀ stk, (sysW table glob).pcall 13 [(.d (.str a0)), (.d (.int .u16 a1))] stk = some (.d (.bool r0)) := by
  intro _ _ _ hp stk
  exact pcall_of (T := table) (G := glob) (f := 13) rfl rfl (s_cascadelaw02_QuoteCuts_0 stk _ _ _ hp)
end Go.Abs.A
