/- The law PathAdds returns true for every input, and changes nothing that was handed in. The package-level variables of the library that are listed read as their initialisers lay them (tied). -/
import Derived.Test.YtacabmodmbcldaaDoorMPm
import Derived.Test.YtacabmodmbcldaaDoorAbs23
import Derived.Test.YtacabmodmbcldaaDoorOkT
import Derived.Test.YtacabmodmbcldaaDoorET
import Derived.Test.YtacabmodmbcldaaDoorOpT
import Derived.Test.YtacabmodmbcldaaDoorRows
import Derived.Test.YtacabmodmbcldaaDoorCards
import Derived.Test.YtacabmodmbcldaaDoorTie
import Derived.ProofKit
import Derived.LaidMore
import Derived.Lay
import Derived.OpenShut
import Derived.Stop.Joined
import Derived.SevenTiedAt
import Derived.Lib.LaidU8
set_option linter.unusedVariables false
namespace Go.Proofs.YtacabmodmbcldaaDoor
open Go.ChangeShapes Go.WideShapes Go.ChangeAt Go.RowKit Go.ChangeMaps
open Go.Abs (allOf)
namespace PathAdds
theorem own : ownKnob Tryd.prog.godebug = none := by kernel_rfl
theorem laidOut : laidOutB Tryd.prog = true := by kernel_rfl
theorem glob_of {W : World} (h : laidMetH Tryd.prog Rows.pathAddsRow.laid W) : Go.Abs.Glob Go.Abs.T.glob (allOf W) W := by
  have e : Rows.pathAddsRow.laid = [("unicode/utf8.acceptRanges", Lib.acceptData), ("unicode/utf8.first", Lib.firstData)] := by kernel_rfl
  rw [e] at h
  rw [MakeChecks.laidMetH_plain _ _ _ (by kernel_rfl)] at h
  have hU : Lib.Utf8Tabs 1 2 W :=
    utf8Tabs_of_reads (ρ := Tryd.lays197_ren) { Tryd.lays197 with } ⟨by kernel_rfl, by kernel_rfl, by kernel_rfl, by kernel_rfl, by kernel_rfl, by kernel_rfl, by kernel_rfl⟩ (Lib.laidMet.reads h (.tail _ (.head _))) (Lib.laidMet.reads h (.head _))
  have h0 : W.cell? ⟨1, 0, none⟩ = _ := hU.1 0 (by omega)
  have h1 := (hU.2 0 (by omega)).1
  exact Go.Abs.T.tabs_glob hU (Go.Abs.spot_none h0).2 (Go.Abs.spot_none h1).2
set_option maxRecDepth 100000 in
theorem lifted (os : Os) (started : os.Started) (H : Type) (enc : TypeId × Value → H) :
    ReturnsInHanded {} Tryd.checked os 9 .any (fun w args => (Rows.pathAddsSpec.pre enc Tryd.prog Tryd.f9 [] false w args ∧ laidMetH Tryd.prog Rows.pathAddsRow.laid w) ∧ sizedMet enc Tryd.prog Tryd.f9 (OpenSpec.ofChange Rows.pathAddsSpec) false w args)
      (Rows.pathAddsSpec.post enc Tryd.prog Tryd.f9 false true false false) := by
  refine returnsInHanded_of_change_and (C := Tryd.checked) (X := fun w _ => laidMetH Tryd.prog Rows.pathAddsRow.laid w) (fun _ _ _ hh h => h.of_heap hh) own started (by kernel_rfl) Tryd.func9
    (ChangeSpec.witness_shaped (enc := enc) (C := Tryd.checked) (os := os) (X := fun w _ => laidMetH Tryd.prog Rows.pathAddsRow.laid w) false (World.laidAll Tryd.prog os Rows.pathAddsRow.laid) #[.agg #[.int .i64 0, .int .i64 0, .string .empty, .slice none 0 0, .slice none 0 0], .slice none 0 0, .slice none 0 0] 8 (World.laidAll_os _ _ _)
      (World.shaped_of_ZipB (by kernel_rfl) (by kernel_rfl)) (by kernel_rfl) (by kernel_rfl) (by kernel_rfl)
      (by rw [MakeChecks.laidMetH_plain _ _ _ (by kernel_rfl)]; exact laidMet_laidAll _ (by kernel_rfl) (by kernel_rfl))) ?_
  intro W base args ds gs before hval0 hW _ _ hL _
  have hval : ∀ (j : Nat) t v, Tryd.f9.params[j]? = some t → args[j]? = some v → Value.okWide Tryd.prog W .any base t v := hval0
  have hW' := hW
  obtain ⟨p, q, hA0, hV, rfl, _, _⟩ := hW
  have hA : DataW.TrodAll enc Tryd.prog W 0 (fun _ => true) true Tryd.f9.params.toList args.toList ds p := hA0
  rw [Tryd.params9] at hA hval
  obtain ⟨v0, v1, v2, d0, d1, d2, p0, p1, p2, rfl, rfl, rfl, h0, h1, h2⟩ := trodAll_three hA
  obtain ⟨rfl, rfl⟩ := trodVars_none hV
  obtain ⟨n0, xs0, r0, c0⟩ := Go.Abs.open_st Tryd.underlying28 Go.Abs.T.cov (by decide) (hval 0 28 v0 rfl rfl) h0
  obtain ⟨⟨u0_0, u0_1, u0_2, u0_3, u0_4⟩, e0⟩ := Go.Abs.T.open_28 _ _ c0
  rw [← e0, Go.Abs.T.he_E_e5] at r0
  obtain ⟨a1, r1, w1⟩ := Go.Abs.open_slz Tryd.underlying22 Go.Abs.T.cov (by decide) Go.Abs.T.E_e4 (fun m y k1 k2 hy => by
      obtain ⟨zs, rfl⟩ := k1 (by kernel_rfl)
      obtain ⟨x, hx⟩ := Go.Abs.T.open_42 _ zs hy
      exact ⟨x, by simpa only [Go.Abs.nz] using hx⟩) (hval 1 22 v1 rfl rfl) h1
  obtain ⟨a2, r2, w2⟩ := Go.Abs.open_slz Tryd.underlying25 Go.Abs.T.cov (by decide) Go.Abs.T.E_e5 (fun m y k1 k2 hy => by
      obtain ⟨zs, rfl⟩ := k1 (by kernel_rfl)
      obtain ⟨x, hx⟩ := Go.Abs.T.open_28 _ zs hy
      exact ⟨x, by simpa only [Go.Abs.nz] using hx⟩) (hval 2 25 v2 rfl rfl) h2
  clear hA0 hval0
  simp only [List.append_nil] at hW'
  have e := Go.Abs.T.s_zg ((Go.Abs.T.PathAdds (⟨u0_0, u0_1, u0_2, u0_3, u0_4⟩ : Go.Abs.T.S2_) a1 a2)) []
  obtain ⟨c, hc⟩ := Go.Abs.pcall_call e.1
  have hk := Go.Abs.law_calls (Go.Abs.callW_sound Go.Abs.T.match_ok Go.Abs.T.ext_ok Go.Abs.T.mixed) hc (W := W) (args := #[v0, v1, v2]) (glob_of hL) (by
    simp only [Go.Abs.RVt]
    exact ⟨_, _, rfl, r0, _, _, rfl, r1, _, _, rfl, r2, rfl⟩)
  refine hk.mono fun e W' ⟨he, hb⟩ => ?_
  subst he
  have hlt : ∀ x ∈ p0 ++ p1 ++ p2, x.block < W.heap.size := fun x hx => hW'.lt x (by simpa using hx)
  have harg0 : DataW.Trod enc Tryd.prog W' 0 (fun b => decide (b < W.heap.size)) true 28 (v0) _ p0 :=
    Below.trod laidOut (by kernel_rfl) (of_decide_eq_true (by kernel_rfl)) h0 hb (fun x hx => hlt x (by simp [hx]))
  have harg1 : DataW.Trod enc Tryd.prog W' 0 (fun b => decide (b < W.heap.size)) true 22 (v1) _ p1 :=
    Below.trod laidOut (by kernel_rfl) (of_decide_eq_true (by kernel_rfl)) h1 hb (fun x hx => hlt x (by simp [hx]))
  have harg2 : DataW.Trod enc Tryd.prog W' 0 (fun b => decide (b < W.heap.size)) true 25 (v2) _ p2 :=
    Below.trod laidOut (by kernel_rfl) (of_decide_eq_true (by kernel_rfl)) h2 hb (fun x hx => hlt x (by simp [hx]))
  refine ⟨_, rfl, _, _, _, [], _, [], hW', ?_, trodAll_mk3 harg0 harg1 harg2, rfl, hb.frame _, fun h => by cases h⟩
  exact trodAll_mk1 (shut_bool Tryd.underlying4 _)
theorem row_holds : Rows.PathAddsSaid :=
  OpenClaim.holds_of_wide 9 Tryd.f9 rfl rfl rfl rfl rfl rfl rfl ⟨rfl, rfl, rfl, rfl, rfl⟩ rfl rfl rfl rfl rfl (by kernel_rfl) Tryd.func9 (by kernel_rfl)
    (of_decide_eq_true (by kernel_rfl)) (by unfold Func.isWrapper; first | (rw [if_pos (by decide +kernel)]; kernel_rfl) | (rw [if_neg (by decide +kernel)]; exact ⟨rfl, rfl⟩))
    (fun os started H enc _ => lifted os started H enc)
theorem holds : Rows.PathAddsCardSaid :=
  Claim7.holds_tied_plain_at .later [] [.data, .pinned] true _ false
    row_holds (fun _ h => by cases h) (by kernel_rfl) (fun _ h => by cases h) pathAdds_row_tie rfl ⟨rfl, rfl⟩ (by kernel_rfl) rfl
    (fun f fn hf hfn => by
      obtain rfl : f = 9 := Option.some.inj ((show Tryd.prog.funcNamed "cascade/cascadelaw06.PathAdds" = some 9 by kernel_rfl).symm.trans hf) |>.symm
      obtain rfl : fn = Tryd.f9 := (Option.some.inj (Tryd.func9.symm.trans hfn)).symm
      exact ⟨by kernel_rfl, fun j t ht => by
        rw [Tryd.params9] at ht
        have hm : t ∈ [28, 22, 25] := by simpa using Array.mem_of_getElem? ht
        have hall : ([28, 22, 25].all fun u => !Tryd.prog.wantsStandIn u) = true := by kernel_rfl
        exact (show Tryd.prog.wantsStandIn t = false by simpa using List.all_eq_true.1 hall t hm)⟩)
    (by kernel_rfl)
#print axioms holds
end PathAdds
end Go.Proofs.YtacabmodmbcldaaDoor
