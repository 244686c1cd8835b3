import Derived.Test.YtacabmodmbcldaaDoorXQ
import Derived.Test.YtacabmodmbcldaaDoorLayQ
import Derived.Test.YtacabmodmbcldaaDoorAbs22
import Derived.Test.YtacabmodmbcldaaDoorIrQ
import Derived.Shelf.Vars
import Derived.Shelf.Strings.Prefix
import Derived.Shelf.Strings.SlTrimAscii
/-! The library's functions that are left to contracts keep them. -/
set_option linter.unusedSimpArgs false
set_option linter.unusedVariables false
namespace Go.Proofs
theorem Tryd.extra156 : Builder.Extra Tryd.prog Tryd.lays156_ren := {
  sizeBuilder := by kernel_rfl
  liesBuilder := by kernel_rfl
  t5 := Tryd.underlying5
  a5 := Tryd.isAgg5
  z5 := Tryd.sizeOf5
  v5 := Tryd.zeroValue5
  infoByte := by kernel_rfl
  cellsByte := by kernel_rfl
  sizeByte := by kernel_rfl
  neB5 := by decide }
theorem Tryd.extra155 : Builder.Extra Tryd.prog Tryd.lays155_ren := {
  sizeBuilder := by kernel_rfl
  liesBuilder := by kernel_rfl
  t5 := Tryd.underlying5
  a5 := Tryd.isAgg5
  z5 := Tryd.sizeOf5
  v5 := Tryd.zeroValue5
  infoByte := by kernel_rfl
  cellsByte := by kernel_rfl
  sizeByte := by kernel_rfl
  neB5 := by decide }
end Go.Proofs
namespace Go.Abs.Q
open Go.Proofs
theorem any_glob {W : World} (h : ∃ m, W.cell? ⟨0, 0, none⟩ = some (.int .i64 m)) (h0 : 0 < W.heap.size) : Glob glob (allOf W) W := by
  obtain ⟨m, hm⟩ := h
  intro gn cs hg
  match gn, hg with
  | 0, hg =>
    cases hg
    refine ⟨h0, [.int .i64 m], ?_, ?_, fun he => (by cases he), fun _ => ⟨m, rfl⟩⟩
    · simp only [Rl]
      exact ⟨_, _, rfl, rfl, by simp only [Rv]; rfl, rfl⟩
    · intro j u hj
      cases j with
      | zero => simp at hj; subst hj; simpa using hm
      | succ j => simp at hj
theorem glob_any {F : Blks} {w : World} (h : Glob glob F w) : ∃ m, w.cell? ⟨0, 0, none⟩ = some (.int .i64 m) := by
  obtain ⟨_, ws, _, h2, _, h4⟩ := h 0 [.any] rfl
  obtain ⟨m, rfl⟩ := h4 rfl
  exact ⟨m, by simpa using h2 0 _ rfl⟩
theorem index_keeps : ExtOK Tryd.prog glob 115 ext_strings_IndexByte := by
  intro vs d he ρ F stk w args hok hG ha
  unfold ext_strings_IndexByte at he
  split at he <;> try (cases he; done)
  rename_i s c
  cases he
  simp only [RVt, RV, Rv] at ha
  obtain ⟨u, us, rfl, rfl, u2, us2, rfl, rfl, rfl⟩ := ha
  refine (Any.strings_IndexByte Tryd.lays137 ⟨⟨s⟩⟩ c w).mono fun en w' hh => ?_
  obtain ⟨rfl, rfl⟩ := hh
  exact ⟨_, rfl, rfl, RowKit.Below.refl _ _⟩
theorem prefix_keeps : ExtOK Tryd.prog glob 116 ext_strings_HasPrefix := by
  intro vs d he ρ F stk w args hok hG ha
  unfold ext_strings_HasPrefix at he
  split at he <;> try (cases he; done)
  rename_i s p
  cases he
  simp only [RVt, RV, Rv] at ha
  obtain ⟨u, us, rfl, rfl, u2, us2, rfl, rfl, rfl⟩ := ha
  refine (Any.strings_HasPrefix Tryd.lays99 ⟨⟨s⟩⟩ ⟨⟨p⟩⟩ w).mono fun en w' hh => ?_
  obtain ⟨rfl, rfl⟩ := hh
  exact ⟨_, rfl, rfl, RowKit.Below.refl _ _⟩
theorem suffix_keeps : ExtOK Tryd.prog glob 122 ext_strings_HasSuffix := by
  intro vs d he ρ F stk w args hok hG ha
  unfold ext_strings_HasSuffix at he
  split at he <;> try (cases he; done)
  rename_i s p
  split at he <;> try (cases he; done)
  rename_i hs
  cases he
  simp only [RVt, RV, Rv] at ha
  obtain ⟨u, us, rfl, rfl, u2, us2, rfl, rfl, rfl⟩ := ha
  refine (Any.strings_HasSuffix Tryd.lays100 ⟨⟨s⟩⟩ ⟨⟨p⟩⟩ w hs).mono fun en w' hh => ?_
  obtain ⟨rfl, rfl⟩ := hh
  exact ⟨_, rfl, rfl, RowKit.Below.refl _ _⟩
theorem contains_keeps : ExtOK Tryd.prog glob 121 ext_strings_Contains := by
  intro vs d he ρ F stk w args hok hG ha
  unfold ext_strings_Contains at he
  split at he <;> try (cases he; done)
  rename_i s c
  cases he
  simp only [RVt, RV, Rv] at ha
  obtain ⟨u, us, rfl, rfl, u2, us2, rfl, rfl, rfl⟩ := ha
  refine (Any.strings_Contains_one Tryd.lays144 ⟨⟨s⟩⟩ c w).mono fun en w' hh => ?_
  obtain ⟨rfl, rfl⟩ := hh
  exact ⟨_, rfl, rfl, RowKit.Below.refl _ _⟩
theorem replace_keeps : ExtOK Tryd.prog glob 85 ext_strings_ReplaceAll := by
  intro vs d he ρ F stk w args hok hG ha
  unfold ext_strings_ReplaceAll at he
  split at he <;> try (cases he; done)
  rename_i s old new
  split at he <;> try (cases he; done)
  rename_i hr
  cases he
  simp only [repOk, Bool.and_eq_true, decide_eq_true_eq] at hr
  simp only [RVt, RV, Rv] at ha
  obtain ⟨u, us, rfl, rfl, u2, us2, rfl, rfl, u3, us3, rfl, rfl, rfl⟩ := ha
  obtain ⟨m, hm⟩ := glob_any hG
  refine (Any.strings_ReplaceAll Tryd.lays155 Tryd.extra155 ⟨⟨s⟩⟩ ⟨⟨old⟩⟩ ⟨⟨new⟩⟩ m w hr.1.1 hm hr.1.2 hr.2).mono fun en w' hh => ?_
  obtain ⟨rfl, hb⟩ := hh
  exact ⟨_, rfl, rfl, hb⟩
theorem Re_strs {F : Blks} {w : World} {esz : Nat} : ∀ {xs : List D} {l : List Str} {ws : List Value}, strsOf xs = some l → Re F w esz xs ws → ws = l.map fun s => .string ⟨⟨s⟩⟩
  | [], l, ws, h, hr => by
    simp only [strsOf, Option.some.injEq] at h
    subst h
    simpa [Re] using hr
  | x :: r, l, ws, h, hr => by
    cases x <;> simp only [strsOf, reduceCtorEq] at h
    rename_i s
    split at h <;> try (cases h; done)
    rename_i l' hl
    cases h
    simp only [Re] at hr
    obtain ⟨u, ws', rfl, _, _, hu, hr'⟩ := hr
    simp only [Rv] at hu
    subst hu
    rw [Re_strs hl hr']
    rfl
theorem strs_len : ∀ {xs : List D} {l : List Str}, strsOf xs = some l → l.length = xs.length
  | [], l, h => by simp only [strsOf, Option.some.injEq] at h; subst h; rfl
  | x :: r, l, h => by
    cases x <;> simp only [strsOf, reduceCtorEq] at h
    split at h <;> try (cases h; done)
    rename_i l' hl
    cases h
    simp [strs_len hl]
theorem join_keeps : ExtOK Tryd.prog glob 87 ext_strings_Join := by
  intro vs d he ρ F stk w args hok hG ha
  unfold ext_strings_Join at he
  split at he <;> try (cases he; done)
  rename_i xs sep
  split at he <;> try (cases he; done)
  rename_i l hl
  split at he <;> try (cases he; done)
  rename_i hj
  cases he
  simp only [joinOk, Bool.and_eq_true, decide_eq_true_eq] at hj
  simp only [RVt, RV, Rv] at ha
  obtain ⟨u, us, rfl, ⟨a, c, rfl, hc, hx⟩, u2, us2, rfl, rfl, rfl⟩ := ha
  have hlen := strs_len hl
  rcases hx with rfl | ⟨b, o, esz, ws, rfl, hF, hz, hre, hcl⟩
  · simp only [strsOf, Option.some.injEq] at hl
    subst hl
    refine (Any.strings_Join_none Tryd.lays156 Tryd.extra156 a c ⟨⟨sep⟩⟩ w).mono fun en w' hh => ?_
    obtain ⟨rfl, rfl⟩ := hh
    exact ⟨_, rfl, rfl, RowKit.Below.refl _ _⟩
  · have hws := Re_strs hl hre
    subst hws
    have hmap : (l.map fun s : Str => (⟨⟨s⟩⟩ : ByteArray)).map (·.data.toList) = l := by
      rw [List.map_map]
      exact List.map_id l
    have := Any.strings_Join Tryd.lays156 Tryd.extra156 b o c (l.map fun s => ⟨⟨s⟩⟩) ⟨⟨sep⟩⟩ w (fun j x hj2 => hcl j _ (by
      rw [List.getElem?_map] at hj2 ⊢
      cases hlj : l[j]? with
      | none => rw [hlj] at hj2; cases hj2
      | some y => rw [hlj] at hj2; simp only [Option.map_some, Option.some.injEq] at hj2 ⊢; rw [← hj2])) (hok.lt b hF) (by simpa using hj.1) (by simp; omega) (by rw [hmap]; exact hj.2)
    rw [hmap, List.length_map, hlen] at this
    refine this.mono fun en w' hh => ?_
    obtain ⟨rfl, hb⟩ := hh
    exact ⟨_, rfl, rfl, hb⟩
theorem trim_keeps : ExtOK Tryd.prog glob 114 ext_strings_TrimLeft := by
  intro vs d he ρ F stk w args hok hG ha
  unfold ext_strings_TrimLeft at he
  split at he <;> try (cases he; done)
  rename_i s
  cases he
  simp only [RVt, RV, Rv] at ha
  obtain ⟨u, us, rfl, rfl, u2, us2, rfl, rfl, rfl⟩ := ha
  have hbl : Lib.trimLeftS s [32, 9] = s.dropWhile isBl := by
    unfold Lib.trimLeftS
    congr 1
    funext b
    simp only [isBl, List.contains, List.elem]
    cases b == 32 <;> cases b == 9 <;> rfl
  have hasc : ∀ (j : Nat) b, ((⟨#[32, 9]⟩ : ByteArray).data.toList)[j]? = some b → b.toNat < 128 := by
    intro j b hb
    have hb : ([32, 9] : List UInt8)[j]? = some b := hb
    have hm := List.mem_of_getElem? hb
    simp only [List.mem_cons, List.not_mem_nil, or_false] at hm
    rcases hm with rfl | rfl
    · exact by show 32 < 128; omega
    · exact by show 9 < 128; omega
  refine (Any.strings_TrimLeft_laid Tryd.lays161 (by kernel_rfl) ⟨⟨s⟩⟩ ⟨#[32, 9]⟩ w (by show 2 < 4294967281; omega) hasc).mono fun en w' hh => ?_
  obtain ⟨rfl, hb⟩ := hh
  refine ⟨_, rfl, ?_, hb⟩
  simp only [Rv]
  show Value.string ⟨(Lib.trimLeftS s [32, 9]).toArray⟩ = _
  rw [hbl]
theorem ext_ok : ∀ f rf e, oldT table f = some rf → rf.ext = some e → XOK Tryd.prog glob f e := by
  intro f rf e h hx
  unfold oldT at h
  split at h <;> try (cases h; done)
  rename_i kf hk
  cases h
  have hx' : kf.ext = some e := hx
  unfold table at hk
  split at hk <;> first
    | (cases hk; done)
    | (cases hk; cases hx'; done)
    | (cases hk; cases hx'; exact index_keeps)
    | (cases hk; cases hx'; exact prefix_keeps)
    | (cases hk; cases hx'; exact suffix_keeps)
    | (cases hk; cases hx'; exact contains_keeps)
    | (cases hk; cases hx'; exact replace_keeps)
    | (cases hk; cases hx'; exact join_keeps)
    | (cases hk; cases hx'; exact trim_keeps)
end Go.Abs.Q
