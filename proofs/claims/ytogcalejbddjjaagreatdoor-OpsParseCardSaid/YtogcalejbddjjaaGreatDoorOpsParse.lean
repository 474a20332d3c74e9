/- Which operators any text is, or why none: the law OpsParse of chapter 11 returns true for every text handed in, whatever memory the call begins in; the listed variables hold what their texts lay. -/
import Derived.Test.YtogcalejbddjjaaGreatDoorTyU8
import Derived.Test.YtogcalejbddjjaaGreatDoorTyKS
import Derived.Test.YtogcalejbddjjaaGreatDoorInkC
import Derived.Test.YtogcalejbddjjaaGreatDoorCards
import Derived.Test.YtogcalejbddjjaaGreatDoorTie
import Derived.ProofKit
import Derived.OpenShut
import Derived.LaidMore
import Derived.Lay
import Derived.SevenTiedAt
import Derived.Stop.Joined
import Derived.ChangeMaps5
import Derived.Stop.LaidErr
import Derived.Test.YtogcalejbddjjaaGreatDoorInkE
set_option linter.all false
namespace Go.Proofs.YtogcalejbddjjaaGreatDoor
open Go.ChangeShapes Go.WideShapes Go.ChangeAt Go.RowKit Go.ChangeMaps
set_option maxRecDepth 100000

theorem opsParse_own : ownKnob Tryz.prog.godebug = none := by kernel_rfl

theorem opsParse_tab {W : World} (h : laidMetH Tryz.prog Rows.opsParseRow.laid W) : Lib.TabIs Tryz.prog W "internal/strconv.uint64pow10" .u64 Lib.pow10Tab := by
  rw [MakeChecks.laidMetH_plain _ _ _ (by kernel_rfl)] at h
  exact Lib.tabIs_of_head (n := 20) (g := (Tryz.prog.globalNamed "internal/strconv.uint64pow10").getD 0) (t := 271) (e := 225) (by kernel_rfl) (by kernel_rfl) (by kernel_rfl) (by kernel_rfl) (by kernel_rfl) (by kernel_rfl) h.tail.tail

theorem opsParse_lifted (os : Os) (started : os.Started) (H : Type) (enc : TypeId × Value → H) :
    ReturnsInHanded {} Tryz.checked os 14 .any (fun w args => (Rows.opsParseSpec.pre enc Tryz.prog Tryz.f14 Rows.opsParseRow.domain false w args ∧ laidMetH Tryz.prog Rows.opsParseRow.laid w) ∧ sizedMet enc Tryz.prog Tryz.f14 (OpenSpec.ofChange Rows.opsParseSpec) false w args)
      (Rows.opsParseSpec.post enc Tryz.prog Tryz.f14 false true false false) := by
  refine returnsInHanded_of_change_and (C := Tryz.checked) (X := fun w _ => laidMetH Tryz.prog Rows.opsParseRow.laid w) (fun _ _ _ hh h => h.of_heap hh) opsParse_own started (by kernel_rfl) Tryz.func14
    (ChangeSpec.witness_shaped (enc := enc) (C := Tryz.checked) (os := os) (X := fun w _ => laidMetH Tryz.prog Rows.opsParseRow.laid w) false (World.laidAll Tryz.prog os Rows.opsParseRow.laid) #[.string ⟨#[]⟩] 8 (World.laidAll_os _ _ _)
      (World.shaped_of_ZipB (by kernel_rfl) (by kernel_rfl)) (by kernel_rfl) (by kernel_rfl) (by kernel_rfl)
      (by rw [MakeChecks.laidMetH_plain _ _ _ (by kernel_rfl)]; exact laidMet_laidAll _ (by kernel_rfl) (by kernel_rfl))) ?_
  intro W base args ds gs before hval0 hW hc hS hL _
  have hval : ∀ (j : Nat) t v, Tryz.f14.params[j]? = some t → args[j]? = some v → Value.okWide Tryz.prog W .any base t v := hval0
  refine Ink.law_post hW rfl (by kernel_rfl) Tryz.underlying4 (fun ds' hl => ?_) (by kernel_rfl) (by kernel_rfl) ?_
  · rw [Tryz.params14] at hl
    match ds', hl with
    | [d0], _ => rfl
  · obtain ⟨p, q, hA0, hV, rfl, _, _⟩ := hW
    have hA : DataW.TrodAll enc Tryz.prog W 0 (fun _ => true) true Tryz.f14.params.toList args.toList ds p := hA0
    rw [Tryz.params14] at hA hval
    obtain ⟨v0, vs0, d0, ds0, p0, q0, hargs, rfl, rfl, h0, r0⟩ := trodAll_cons hA
    obtain ⟨rfl, rfl, rfl⟩ := trodAll_nil r0
    obtain rfl : args = #[v0] := by cases args; simp_all
    obtain ⟨a0, rfl, _, _, w0⟩ := open_string Tryz.underlying9 (hval 0 9 v0 rfl rfl) h0
    have w0 : a0.data.toList.length ≤ 9223372036854775807 := w0
    refine Ink.PCalls.callsW (args := [.str a0.data.toList]) (vs := [.string a0]) Tryz.func14 rfl (by kernel_rfl) (Ink.D.opsParse (E := Ink.envW Tryz.prog W) rfl _ w0) ⟨rfl, ?_⟩
    intro j x v hx hv
    match j, hx, hv with
    | 0, hx, hv => cases hx; cases hv; exact .str _ _ rfl
theorem opsParse_ja : (Rows.opsParseRow.inPlace == Tryz.prog.inPlace 14) = true := by kernel_rfl
theorem opsParse_jb : (Rows.opsParseRow.unfollowed == Tryz.prog.unfollowed 14) = true := by kernel_rfl
theorem opsParse_jc : (Rows.opsParseRow.recurses == Tryz.prog.recurses 14) = true := by kernel_rfl
theorem opsParse_jd : (Rows.opsParseRow.named == Tryz.prog.varsNamed 14) = true := by kernel_rfl
theorem opsParse_je : laidOutB Tryz.prog = true := ks_laid
theorem opsParse_jf : mapsRowed Tryz.prog = true := ks_maps
theorem opsParse_jg : Tryz.prog.stopsHeard = true := ks_stops
theorem opsParse_jh : Tryz.prog.mayEnter = true := ks_enter
theorem opsParse_ji : (Rows.opsParseRow.plainKeys == Tryz.prog.plainKeys) = true := ks_plain
theorem opsParse_jj : (Rows.opsParseRow.lifted == Tryz.prog.liftsFinal) = true := ks_lifted
theorem opsParse_jk : (Tryz.prog.make == some Rows.opsParseRow.make) = true := ks_make
theorem opsParse_jl : (Rows.opsParseRow.pinned == Rows.opsParseRow.pinnedBy) = true := by kernel_rfl
theorem opsParse_jm : Rows.opsParseRow.wf (OpenSpec.ofChange Rows.opsParseSpec) = true := by kernel_rfl
theorem opsParse_joined : joinedFacts Tryz.prog 14 Tryz.f14 Rows.opsParseSpec Rows.opsParseRow = true := by
  unfold joinedFacts
  rw [opsParse_ja, opsParse_jb, opsParse_jc, opsParse_jd, opsParse_je, opsParse_jf, opsParse_jg, opsParse_jh, opsParse_ji, opsParse_jj, opsParse_jk, opsParse_jl, opsParse_jm]
  kernel_rfl
theorem opsParse_goes : false = Rows.opsParseRow.goesBy Tryz.prog := by kernel_rfl
theorem opsParse_looks : false = Tryz.prog.looks [] := ks_looks
theorem opsParse_wfText : Rows.opsParseRow.wfByText (OpenSpec.ofChange Rows.opsParseSpec) = true := by kernel_rfl
theorem opsParse_fnam : Tryz.prog.funcNamed "inkstand/inkstandlaw11.OpsParse" = some 14 := by kernel_rfl

theorem opsParse_said : Rows.OpsParseSaid :=
  OpenClaim.holds_of_wide 14 Tryz.f14 rfl rfl rfl rfl rfl rfl rfl ⟨rfl, rfl, rfl, rfl, rfl⟩ rfl rfl rfl rfl rfl opsParse_fnam Tryz.func14 opsParse_joined
    (of_decide_eq_true (by kernel_rfl)) (by unfold Func.isWrapper; first | (rw [if_pos (by decide +kernel)]; kernel_rfl) | (rw [if_neg (by decide +kernel)]; exact ⟨rfl, rfl⟩))
    (fun os started H enc _ => opsParse_lifted os started H enc)

theorem opsParse_holds : Rows.OpsParseCardSaid :=
  Claim7.holds_tied_plain_at .later [] _ _ _ _ opsParse_said (fun _ h => by cases h) opsParse_wfText (fun _ h => by cases h) opsParse_row_tie rfl ⟨rfl, rfl⟩ (by kernel_rfl) rfl
    (fun f fn hf hfn => by
      obtain rfl : f = 14 := Option.some.inj ((show Tryz.prog.funcNamed "inkstand/inkstandlaw11.OpsParse" = some 14 from opsParse_fnam).symm.trans hf) |>.symm
      obtain rfl : fn = Tryz.f14 := (Option.some.inj (Tryz.func14.symm.trans hfn)).symm
      exact ⟨by exact opsParse_looks, fun j t ht => by
        rw [Tryz.params14] at ht
        have hm : t ∈ [9] := by simpa using Array.mem_of_getElem? ht
        have hall : ([9].all fun u => !Tryz.prog.wantsStandIn u) = true := by kernel_rfl
        exact (show Tryz.prog.wantsStandIn t = false by simpa using List.all_eq_true.1 hall t hm)⟩)
    opsParse_goes
#print axioms opsParse_holds
end Go.Proofs.YtogcalejbddjjaaGreatDoor
