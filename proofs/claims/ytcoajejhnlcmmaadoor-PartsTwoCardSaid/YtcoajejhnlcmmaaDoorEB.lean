import Derived.Test.YtcoajejhnlcmmaaDoorXB
import Derived.Test.YtcoajejhnlcmmaaDoorLayB
import Derived.Test.YtcoajejhnlcmmaaDoorAbs22
import Derived.Test.YtcoajejhnlcmmaaDoorAbsB
import Derived.Test.YtcoajejhnlcmmaaDoorIrB
import Derived.Test.YtcoajejhnlcmmaaDoorPB3
import Derived.Lib.LaidU8
/-! The library's functions that are left to contracts keep them. -/
set_option linter.unusedSimpArgs false
set_option linter.unusedVariables false
namespace Go.Abs.B
open Go.Proofs
theorem Rl_ints {F : Blks} {w : World} (k : IntKind) : ∀ {zs : List Int} {us : List Value}, Rl F w (zs.map fun z => .int k z) us → us = zs.map fun z => .int k z
  | [], us, h => by simpa [Rl] using h
  | z :: r, us, h => by
    simp only [List.map_cons, Rl] at h
    obtain ⟨u, us', rfl, _, h2, h3⟩ := h
    simp only [Rv] at h2
    rw [h2, Rl_ints k h3]
    rfl
theorem ints_Rl {F : Blks} {w : World} (k : IntKind) : ∀ (zs : List Int), Rl F w (zs.map fun z => .int k z) (zs.map fun z => .int k z)
  | [] => by simp [Rl]
  | z :: r => by
    simp only [List.map_cons, Rl]
    exact ⟨_, _, rfl, rfl, by simp [Rv], ints_Rl k r⟩
theorem glob_tab {F : Blks} {w : World} (h : Glob glob F w) : Lib.TabIs Tryd.prog w "internal/strconv.uint64pow10" .u64 Lib.pow10Tab := by
  obtain ⟨_, ws, h1, _, h3⟩ := h 0 powTab rfl
  obtain ⟨e, fz, hb⟩ := h3 rfl
  have hw := Rl_ints .u64 h1
  subst hw
  unfold Lib.TabIs World.var?
  rw [show Tryd.prog.globalNamed "internal/strconv.uint64pow10" = some 0 by kernel_rfl]
  simp only [Option.bind_some, hb]
theorem tab_reads {W : World} (h : Lib.VarReads Tryd.prog W "internal/strconv.uint64pow10" (Lib.tabData .u64 Lib.pow10Tab)) : Lib.TabIs Tryd.prog W "internal/strconv.uint64pow10" .u64 Lib.pow10Tab := by
  obtain ⟨g', t', cs, fuel, p, hg', ht', hvar, hd⟩ := h
  have hg : Tryd.prog.globalNamed "internal/strconv.uint64pow10" = some 0 := by kernel_rfl
  obtain rfl := Option.some.inj (hg.symm.trans hg')
  have hty : (Tryd.prog.globals[0]?).map (·.type) = some 69 := by kernel_rfl
  obtain rfl := Option.some.inj (hty.symm.trans ht')
  unfold Lib.TabIs
  rw [hvar, ← Lib.cells_of_tab (show Tryd.prog.underlying 69 = some (.array 20 62) by kernel_rfl) (by kernel_rfl) (by kernel_rfl) (by kernel_rfl) hd]
theorem tab_glob {W : World} (h : Lib.TabIs Tryd.prog W "internal/strconv.uint64pow10" .u64 Lib.pow10Tab) : Glob glob (allOf W) W := by
  unfold Lib.TabIs World.var? at h
  rw [show Tryd.prog.globalNamed "internal/strconv.uint64pow10" = some 0 by kernel_rfl] at h
  simp only [Option.bind_some] at h
  cases hb : W.heap[0]? with
  | none => rw [hb] at h; cases h
  | some ob =>
    rw [hb] at h
    cases ob with
    | cells cs e fz =>
      simp only [Option.some.injEq] at h
      subst h
      intro gn cs hg
      match gn, hg with
      | 0, hg =>
        cases hg
        refine ⟨(Array.getElem?_eq_some_iff.1 hb).1, Lib.pow10Tab.map fun z => .int .u64 z, ints_Rl .u64 _, ?_, fun _ => ⟨e, fz, hb⟩⟩
        intro j u hj
        rw [Nat.zero_add]
        simp only [World.cell?, hb, Option.bind_some]
        simpa using hj
    | _ => cases h
theorem itoa_keeps : ExtOK Tryd.prog glob 20 ext_strconv_Itoa := by
  intro vs d he ρ F stk w args hok hG ha
  unfold ext_strconv_Itoa at he
  split at he <;> try (cases he; done)
  rename_i n
  split at he <;> try (cases he; done)
  rename_i hn
  cases he
  simp only [RVt, RV, Rv] at ha
  obtain ⟨u, us, rfl, rfl, rfl⟩ := ha
  refine (Any.strconv_Itoa Tryd.laysM171 n hn.1 hn.2 w (glob_tab hG)).mono fun en w' hh => ?_
  obtain ⟨rfl, k, os, rfl⟩ := hh
  refine ⟨_, rfl, by simp only [Rv], ?_⟩
  exact ⟨rfl, rfl, rfl, by simp [Sort.grow, World.drewN], fun b hb => by simp [Sort.grow, World.drewN, Array.getElem?_append, hb]⟩
theorem ext_ok : ∀ f rf e, oldT table f = some rf → rf.ext = some e → XOK Tryd.prog glob f e := by
  intro f rf e h hx
  unfold oldT at h
  split at h <;> try (cases h; done)
  rename_i kf hk
  cases h
  have hx' : kf.ext = some e := hx
  unfold table at hk
  split at hk <;> first
    | (cases hk; done)
    | (cases hk; cases hx'; done)
    | (cases hk; cases hx'; exact itoa_keeps)
    | (cases hk; cases hx'; exact str_ok (fun t => Tryd.writeString t))
    | (cases hk; cases hx'; exact text_ok Tryd.text)
end Go.Abs.B
