/- The law TextEnds returns true for every text, and changes nothing that was handed in. The package-level variables of the library that are listed read as their initialisers lay them (tied). -/
import Derived.Test.YtncemafmkkphjaaDoorRA
import Derived.Test.YtncemafmkkphjaaDoorMA5
import Derived.Test.YtncemafmkkphjaaDoorAbs23
import Derived.Test.YtncemafmkkphjaaDoorOkA
import Derived.Test.YtncemafmkkphjaaDoorEA
import Derived.Test.YtncemafmkkphjaaDoorRows
import Derived.Test.YtncemafmkkphjaaDoorCards
import Derived.Test.YtncemafmkkphjaaDoorTie
import Derived.ProofKit
import Derived.LaidMore
import Derived.Lay
import Derived.OpenShut
import Derived.Stop.Joined
import Derived.SevenTiedAt
import Derived.Lib.LaidU8
namespace Go.Proofs.YtncemafmkkphjaaDoor
open Go.ChangeShapes Go.WideShapes Go.ChangeAt Go.RowKit Go.ChangeMaps
open Go.Abs (allOf)
namespace TextEnds
theorem own : ownKnob Tryd.prog.godebug = none := by kernel_rfl
theorem laidOut : laidOutB Tryd.prog = true := by kernel_rfl
theorem glob_of {W : World} (h : laidMetH Tryd.prog Rows.textEndsRow.laid W) : Go.Abs.Glob Go.Abs.A.glob (allOf W) W := by
  have e : Rows.textEndsRow.laid = [("unicode/utf8.acceptRanges", Lib.acceptData), ("unicode/utf8.first", Lib.firstData)] := by kernel_rfl
  rw [e] at h
  rw [MakeChecks.laidMetH_plain _ _ _ (by kernel_rfl)] at h
  have hU : Lib.Utf8Tabs 0 1 W :=
    utf8Tabs_of_reads (ρ := Tryd.lays197_ren) { Tryd.lays197 with } ⟨by kernel_rfl, by kernel_rfl, by kernel_rfl, by kernel_rfl, by kernel_rfl, by kernel_rfl, by kernel_rfl⟩ (Lib.laidMet.reads h (.tail _ (.head _))) (Lib.laidMet.reads h (.head _))
  have h0 : W.cell? ⟨0, 0, none⟩ = _ := hU.1 0 (by omega)
  have h1 := (hU.2 0 (by omega)).1
  exact Go.Abs.A.tabs_glob hU (Go.Abs.spot_none h0).2 (Go.Abs.spot_none h1).2
theorem cov28 : Go.Abs.covB Tryd.prog [28, 9] = true := by kernel_rfl
theorem cov30 : Go.Abs.covB Tryd.prog [30, 5] = true := by kernel_rfl
set_option maxRecDepth 100000 in
theorem lifted (os : Os) (started : os.Started) (H : Type) (enc : TypeId × Value → H) :
    ReturnsInHanded {} Tryd.checked os 6 .any (fun w args => (Rows.textEndsSpec.pre enc Tryd.prog Tryd.f6 [] false w args ∧ laidMetH Tryd.prog Rows.textEndsRow.laid w) ∧ sizedMet enc Tryd.prog Tryd.f6 (OpenSpec.ofChange Rows.textEndsSpec) false w args)
      (Rows.textEndsSpec.post enc Tryd.prog Tryd.f6 false true false false) := by
  refine returnsInHanded_of_change_and (C := Tryd.checked) (X := fun w _ => laidMetH Tryd.prog Rows.textEndsRow.laid w) (fun _ _ _ hh h => h.of_heap hh) own started (by kernel_rfl) Tryd.func6
    (ChangeSpec.witness_shaped (enc := enc) (C := Tryd.checked) (os := os) (X := fun w _ => laidMetH Tryd.prog Rows.textEndsRow.laid w) false (World.laidAll Tryd.prog os Rows.textEndsRow.laid) #[.slice none 0 0, .slice none 0 0] 8 (World.laidAll_os _ _ _)
      (World.shaped_of_ZipB (by kernel_rfl) (by kernel_rfl)) (by kernel_rfl) (by kernel_rfl) (by kernel_rfl)
      (by rw [MakeChecks.laidMetH_plain _ _ _ (by kernel_rfl)]; exact laidMet_laidAll _ (by kernel_rfl) (by kernel_rfl))) ?_
  intro W base args ds gs before hval0 hW _ _ hL _
  have hval : ∀ (j : Nat) t v, Tryd.f6.params[j]? = some t → args[j]? = some v → Value.okWide Tryd.prog W .any base t v := hval0
  have hW' := hW
  obtain ⟨p, q, hA0, hV, rfl, _, _⟩ := hW
  have hA : DataW.TrodAll enc Tryd.prog W 0 (fun _ => true) true Tryd.f6.params.toList args.toList ds p := hA0
  rw [Tryd.params6] at hA hval
  obtain ⟨v0, v1, d0, d1, p0, p1, rfl, rfl, rfl, h0, h1⟩ := trodAll_two hA
  obtain ⟨rfl, rfl⟩ := trodVars_none hV
  obtain ⟨a0, r0, w0, _⟩ := Go.Abs.open_sl Tryd.underlying28 cov28 (by simp) Go.Abs.A.E_string (fun s => s.length ≤ maxLen) (fun n y _ _ _ h1 h2 => Go.Abs.elem_str Tryd.underlying9 (h1 (by kernel_rfl)) h2) (hval 0 28 v0 rfl rfl) h0
  obtain ⟨a1, r1, w1, _⟩ := Go.Abs.open_sl Tryd.underlying30 cov30 (by simp) Go.Abs.A.E_uint8 (fun m => (Lit.int .u8 m).wf = true) (fun n y _ _ _ h1 h2 => Go.Abs.elem_int Tryd.underlying5 (h1 (by kernel_rfl)) h2) (hval 1 30 v1 rfl rfl) h1
  clear hA0 hval0
  simp only [List.append_nil] at hW'
  have hlt : ∀ x ∈ p0 ++ p1, x.block < W.heap.size := fun x hx => by simpa using hW'.lt x hx
  have e := Go.Abs.A.s_cascadelaw01_TextEnds (Go.Abs.A.TextEnds a0 a1) []
  obtain ⟨c, hc⟩ := Go.Abs.pcall_call e
  have hk := Go.Abs.law_calls (Go.Abs.callW_sound Go.Abs.A.match_ok Go.Abs.A.ext_ok Go.Abs.A.mixed) hc (W := W) (args := #[v0, v1]) (glob_of hL) (by
    simp only [Go.Abs.RVt]
    exact ⟨v0, [v1], rfl, r0, v1, [], rfl, r1, rfl⟩)
  refine hk.mono fun e W' ⟨he, hb⟩ => ?_
  subst he
  have harg0 : DataW.Trod enc Tryd.prog W' 0 (fun b => decide (b < W.heap.size)) true 28 v0 d0 p0 :=
    Below.trod laidOut (by kernel_rfl) (of_decide_eq_true (by kernel_rfl)) h0 hb (fun x hx => hlt x (List.mem_append.2 (.inl hx)))
  have harg1 : DataW.Trod enc Tryd.prog W' 0 (fun b => decide (b < W.heap.size)) true 30 v1 d1 p1 :=
    Below.trod laidOut (by kernel_rfl) (of_decide_eq_true (by kernel_rfl)) h1 hb (fun x hx => hlt x (List.mem_append.2 (.inr hx)))
  refine ⟨_, rfl, _, _, _, [], _, [], hW', ?_, trodAll_mk2 harg0 harg1, rfl, hb.frame _, fun h => by cases h⟩
  exact trodAll_mk1 (shut_bool Tryd.underlying4 _)
theorem row_holds : Rows.TextEndsSaid :=
  OpenClaim.holds_of_wide 6 Tryd.f6 rfl rfl rfl rfl rfl rfl rfl ⟨rfl, rfl, rfl, rfl, rfl⟩ rfl rfl rfl rfl rfl (by kernel_rfl) Tryd.func6 (by kernel_rfl)
    (of_decide_eq_true (by kernel_rfl)) (by unfold Func.isWrapper; first | (rw [if_pos (by decide +kernel)]; kernel_rfl) | (rw [if_neg (by decide +kernel)]; exact ⟨rfl, rfl⟩))
    (fun os started H enc _ => lifted os started H enc)
theorem holds : Rows.TextEndsCardSaid :=
  Claim7.holds_tied_plain_at .later [] [.data, .pinned] true _ false
    row_holds (fun _ h => by cases h) (by kernel_rfl) (fun _ h => by cases h) textEnds_row_tie rfl ⟨rfl, rfl⟩ (by kernel_rfl) rfl
    (fun f fn hf hfn => by
      obtain rfl : f = 6 := Option.some.inj ((show Tryd.prog.funcNamed "cascade/cascadelaw01.TextEnds" = some 6 by kernel_rfl).symm.trans hf) |>.symm
      obtain rfl : fn = Tryd.f6 := (Option.some.inj (Tryd.func6.symm.trans hfn)).symm
      exact ⟨by kernel_rfl, fun j t ht => by
        rw [Tryd.params6] at ht
        have hm : t ∈ [28, 30] := by simpa using Array.mem_of_getElem? ht
        have hall : ([28, 30].all fun u => !Tryd.prog.wantsStandIn u) = true := by kernel_rfl
        exact (show Tryd.prog.wantsStandIn t = false by simpa using List.all_eq_true.1 hall t hm)⟩)
    (by kernel_rfl)
#print axioms holds
end TextEnds
end Go.Proofs.YtncemafmkkphjaaDoor
