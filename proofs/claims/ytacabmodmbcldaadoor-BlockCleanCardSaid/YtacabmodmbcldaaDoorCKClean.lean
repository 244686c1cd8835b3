/- The law BlockClean returns true for every input, and changes nothing that was handed in. The package-level variables of the library that are listed read as their initialisers lay them (tied). -/
import Derived.Test.YtacabmodmbcldaaDoorMK9
import Derived.Test.YtacabmodmbcldaaDoorAbs26
import Derived.Test.YtacabmodmbcldaaDoorAbs23
import Derived.Test.YtacabmodmbcldaaDoorOkQ
import Derived.Test.YtacabmodmbcldaaDoorEQ
import Derived.Test.YtacabmodmbcldaaDoorRows
import Derived.Test.YtacabmodmbcldaaDoorCards
import Derived.Test.YtacabmodmbcldaaDoorTie
import Derived.ProofKit
import Derived.LaidMore
import Derived.Lay
import Derived.OpenShut
import Derived.Stop.Joined
import Derived.SevenTiedAt
import Derived.Lib.LaidU8
set_option linter.unusedVariables false
namespace Go.Proofs.YtacabmodmbcldaaDoor
open Go.ChangeShapes Go.WideShapes Go.ChangeAt Go.RowKit Go.ChangeMaps
open Go.Abs (allOf)
namespace BlockClean
theorem own : ownKnob Tryd.prog.godebug = none := by kernel_rfl
theorem laidOut : laidOutB Tryd.prog = true := by kernel_rfl
theorem glob_of {W : World} (h : W.ShapedOpen Tryd.prog) : Go.Abs.Glob Go.Abs.Q.glob (allOf W) W := by
  obtain ⟨m, hm⟩ := cell_of_shapedOpen_int (zero := #[.int .i64 0]) (t := 3) (g := 0) h (of_decide_eq_true (by kernel_rfl)) (by kernel_rfl) rfl (by kernel_rfl) (by kernel_rfl) Tryd.underlying3
  exact Go.Abs.Q.any_glob ⟨m, hm⟩ (World.block_lt_of_cell? _ _ hm)
set_option maxRecDepth 100000 in
theorem lifted (os : Os) (started : os.Started) (H : Type) (enc : TypeId × Value → H) :
    ReturnsInHanded {} Tryd.checked os 13 .any (fun w args => (Rows.blockCleanSpec.pre enc Tryd.prog Tryd.f13 [] false w args ∧ laidMetH Tryd.prog Rows.blockCleanRow.laid w) ∧ sizedMet enc Tryd.prog Tryd.f13 (OpenSpec.ofChange Rows.blockCleanSpec) false w args)
      (Rows.blockCleanSpec.post enc Tryd.prog Tryd.f13 false true false false) := by
  refine Go.Abs.handed_shaped (C := Tryd.checked) (X := fun w _ => laidMetH Tryd.prog Rows.blockCleanRow.laid w) (fun _ _ _ hh h => h.of_heap hh) own started (by kernel_rfl) Tryd.func13
    (ChangeSpec.witness_shaped (enc := enc) (C := Tryd.checked) (os := os) (X := fun w _ => laidMetH Tryd.prog Rows.blockCleanRow.laid w) false (World.laidAll Tryd.prog os Rows.blockCleanRow.laid) #[.string .empty, .int .u8 0] 8 (World.laidAll_os _ _ _)
      (World.shaped_of_ZipB (by kernel_rfl) (by kernel_rfl)) (by kernel_rfl) (by kernel_rfl) (by kernel_rfl)
      (by rw [MakeChecks.laidMetH_plain _ _ _ (by kernel_rfl)]; exact laidMet_laidAll _ (by kernel_rfl) (by kernel_rfl))) ?_
  intro W base args ds gs before hval0 hW hS hL _
  have hval : ∀ (j : Nat) t v, Tryd.f13.params[j]? = some t → args[j]? = some v → Value.okWide Tryd.prog W .any base t v := hval0
  have hW' := hW
  obtain ⟨p, q, hA0, hV, rfl, _, _⟩ := hW
  have hA : DataW.TrodAll enc Tryd.prog W 0 (fun _ => true) true Tryd.f13.params.toList args.toList ds p := hA0
  rw [Tryd.params13] at hA hval
  obtain ⟨v0, v1, d0, d1, p0, p1, rfl, rfl, rfl, h0, h1⟩ := trodAll_two hA
  obtain ⟨rfl, rfl⟩ := trodVars_none hV
  obtain ⟨s0, rfl, rfl, rfl, w0⟩ := open_string Tryd.underlying9 (hval 0 9 v0 rfl rfl) h0
  have w0 : s0.data.toList.length ≤ maxLen := by simpa using w0
  obtain ⟨n1, rfl, rfl, rfl, w1⟩ := open_int Tryd.underlying5 (hval 1 5 v1 rfl rfl) h1
  clear hA0 hval0
  simp only [List.append_nil] at hW'
  have e := Go.Abs.Q.s_cascadelaw07_BlockClean (Go.Abs.Q.BlockClean (s0.data.toList) n1 (Go.Abs.Q.u8_wf w1).1 (Go.Abs.Q.u8_wf w1).2) []
  obtain ⟨c, hc⟩ := Go.Abs.pcall_call e.1
  have hk := Go.Abs.law_calls (Go.Abs.callW_sound Go.Abs.Q.match_ok Go.Abs.Q.ext_ok Go.Abs.Q.mixed) hc (W := W) (args := #[.string s0, .int .u8 n1]) (glob_of hS) (by
    simp only [Go.Abs.RVt]
    exact ⟨_, _, rfl, by simp only [Go.Abs.RV, Go.Abs.Rv], _, _, rfl, by simp only [Go.Abs.RV, Go.Abs.Rv], rfl⟩)
  refine hk.mono fun e W' ⟨he, hb⟩ => ?_
  subst he
  have harg0 : DataW.Trod enc Tryd.prog W' 0 (fun b => decide (b < W.heap.size)) true 9 (.string s0) _ [] :=
    Below.trod laidOut (by kernel_rfl) (of_decide_eq_true (by kernel_rfl)) h0 hb (fun x hx => by cases hx)
  have harg1 : DataW.Trod enc Tryd.prog W' 0 (fun b => decide (b < W.heap.size)) true 5 (.int .u8 n1) _ [] :=
    Below.trod laidOut (by kernel_rfl) (of_decide_eq_true (by kernel_rfl)) h1 hb (fun x hx => by cases hx)
  refine ⟨_, rfl, _, _, _, [], _, [], hW', ?_, trodAll_mk2 harg0 harg1, rfl, hb.frame _, fun h => by cases h⟩
  exact trodAll_mk1 (shut_bool Tryd.underlying4 _)
theorem row_holds : Rows.BlockCleanSaid :=
  OpenClaim.holds_of_wide 13 Tryd.f13 rfl rfl rfl rfl rfl rfl rfl ⟨rfl, rfl, rfl, rfl, rfl⟩ rfl rfl rfl rfl rfl (by kernel_rfl) Tryd.func13 (by kernel_rfl)
    (of_decide_eq_true (by kernel_rfl)) (by unfold Func.isWrapper; first | (rw [if_pos (by decide +kernel)]; kernel_rfl) | (rw [if_neg (by decide +kernel)]; exact ⟨rfl, rfl⟩))
    (fun os started H enc _ => lifted os started H enc)
theorem holds : Rows.BlockCleanCardSaid :=
  Claim7.holds_tied_plain_at .later [] [.data, .pinned] true _ false
    row_holds (fun _ h => by cases h) (by kernel_rfl) (fun _ h => by cases h) blockClean_row_tie rfl ⟨rfl, rfl⟩ (by kernel_rfl) rfl
    (fun f fn hf hfn => by
      obtain rfl : f = 13 := Option.some.inj ((show Tryd.prog.funcNamed "cascade/cascadelaw07.BlockClean" = some 13 by kernel_rfl).symm.trans hf) |>.symm
      obtain rfl : fn = Tryd.f13 := (Option.some.inj (Tryd.func13.symm.trans hfn)).symm
      exact ⟨by kernel_rfl, fun j t ht => by
        rw [Tryd.params13] at ht
        have hm : t ∈ [9, 5] := by simpa using Array.mem_of_getElem? ht
        have hall : ([9, 5].all fun u => !Tryd.prog.wantsStandIn u) = true := by kernel_rfl
        exact (show Tryd.prog.wantsStandIn t = false by simpa using List.all_eq_true.1 hall t hm)⟩)
    (by kernel_rfl)
#print axioms holds
end BlockClean
end Go.Proofs.YtacabmodmbcldaaDoor
