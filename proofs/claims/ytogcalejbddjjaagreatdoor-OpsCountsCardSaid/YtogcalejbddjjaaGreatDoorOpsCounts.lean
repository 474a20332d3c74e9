/- So many operands an operator may have, and one more it may not, as many are written: the law OpsCounts of chapter 11 returns true for every number, whatever memory the call begins in; the listed variables hold what their texts lay. -/
import Derived.Test.YtogcalejbddjjaaGreatDoorTyN6
import Derived.Test.YtogcalejbddjjaaGreatDoorTyKS
import Derived.Test.YtogcalejbddjjaaGreatDoorInkC
import Derived.Test.YtogcalejbddjjaaGreatDoorCards
import Derived.Test.YtogcalejbddjjaaGreatDoorTie
import Derived.ProofKit
import Derived.OpenShut
import Derived.LaidMore
import Derived.Lay
import Derived.SevenTiedAt
import Derived.Stop.Joined
import Derived.ChangeMaps5
import Derived.Stop.LaidErr
import Derived.Test.YtogcalejbddjjaaGreatDoorInkE
set_option linter.all false
namespace Go.Proofs.YtogcalejbddjjaaGreatDoor
open Go.ChangeShapes Go.WideShapes Go.ChangeAt Go.RowKit Go.ChangeMaps
set_option maxRecDepth 100000

theorem opsCounts_own : ownKnob Tryz.prog.godebug = none := by kernel_rfl

theorem opsCounts_tab {W : World} (h : laidMetH Tryz.prog Rows.opsCountsRow.laid W) : Lib.TabIs Tryz.prog W "internal/strconv.uint64pow10" .u64 Lib.pow10Tab := by
  rw [MakeChecks.laidMetH_plain _ _ _ (by kernel_rfl)] at h
  exact Lib.tabIs_of_head (n := 20) (g := (Tryz.prog.globalNamed "internal/strconv.uint64pow10").getD 0) (t := 271) (e := 225) (by kernel_rfl) (by kernel_rfl) (by kernel_rfl) (by kernel_rfl) (by kernel_rfl) (by kernel_rfl) h.tail.tail

theorem opsCounts_lifted (os : Os) (started : os.Started) (H : Type) (enc : TypeId × Value → H) :
    ReturnsInHanded {} Tryz.checked os 13 .any (fun w args => (Rows.opsCountsSpec.pre enc Tryz.prog Tryz.f13 Rows.opsCountsRow.domain false w args ∧ laidMetH Tryz.prog Rows.opsCountsRow.laid w) ∧ sizedMet enc Tryz.prog Tryz.f13 (OpenSpec.ofChange Rows.opsCountsSpec) false w args)
      (Rows.opsCountsSpec.post enc Tryz.prog Tryz.f13 false true false false) := by
  refine returnsInHanded_of_change_and (C := Tryz.checked) (X := fun w _ => laidMetH Tryz.prog Rows.opsCountsRow.laid w) (fun _ _ _ hh h => h.of_heap hh) opsCounts_own started (by kernel_rfl) Tryz.func13
    (ChangeSpec.witness_shaped (enc := enc) (C := Tryz.checked) (os := os) (X := fun w _ => laidMetH Tryz.prog Rows.opsCountsRow.laid w) false (World.laidAll Tryz.prog os Rows.opsCountsRow.laid) #[.int .i64 0] 8 (World.laidAll_os _ _ _)
      (World.shaped_of_ZipB (by kernel_rfl) (by kernel_rfl)) (by kernel_rfl) (by kernel_rfl) (by kernel_rfl)
      (by rw [MakeChecks.laidMetH_plain _ _ _ (by kernel_rfl)]; exact laidMet_laidAll _ (by kernel_rfl) (by kernel_rfl))) ?_
  intro W base args ds gs before hval0 hW hc hS hL _
  have hval : ∀ (j : Nat) t v, Tryz.f13.params[j]? = some t → args[j]? = some v → Value.okWide Tryz.prog W .any base t v := hval0
  refine Ink.law_post hW rfl (by kernel_rfl) Tryz.underlying4 (fun ds' hl => ?_) (by kernel_rfl) (by kernel_rfl) ?_
  · rw [Tryz.params13] at hl
    match ds', hl with
    | [d0], _ => rfl
  · obtain ⟨p, q, hA0, hV, rfl, _, _⟩ := hW
    have hA : DataW.TrodAll enc Tryz.prog W 0 (fun _ => true) true Tryz.f13.params.toList args.toList ds p := hA0
    rw [Tryz.params13] at hA hval
    obtain ⟨v0, vs0, d0, ds0, p0, q0, hargs, rfl, rfl, h0, r0⟩ := trodAll_cons hA
    obtain ⟨rfl, rfl, rfl⟩ := trodAll_nil r0
    obtain rfl : args = #[v0] := by cases args; simp_all
    obtain ⟨a0, rfl, _, _, w0⟩ := open_int Tryz.underlying3 (hval 0 3 v0 rfl rfl) h0
    have w0 := Ink.wf_ik w0
    have hT : Ink.D.TabE (Ink.envW Tryz.prog W) := fun c hg => Ink.tabW (opsCounts_tab hL) hg
    refine Ink.PCalls.callsW (args := [.int .i64 a0]) (vs := [.int .i64 a0]) Tryz.func13 rfl (by kernel_rfl) (Ink.D.opsCounts (E := Ink.envW Tryz.prog W) rfl hT a0) ⟨rfl, ?_⟩
    intro j x v hx hv
    match j, hx, hv with
    | 0, hx, hv => cases hx; cases hv; exact .int _ _ w0
theorem opsCounts_ja : (Rows.opsCountsRow.inPlace == Tryz.prog.inPlace 13) = true := by kernel_rfl
theorem opsCounts_jb : (Rows.opsCountsRow.unfollowed == Tryz.prog.unfollowed 13) = true := by kernel_rfl
theorem opsCounts_jc : (Rows.opsCountsRow.recurses == Tryz.prog.recurses 13) = true := by kernel_rfl
theorem opsCounts_jd : (Rows.opsCountsRow.named == Tryz.prog.varsNamed 13) = true := by kernel_rfl
theorem opsCounts_je : laidOutB Tryz.prog = true := ks_laid
theorem opsCounts_jf : mapsRowed Tryz.prog = true := ks_maps
theorem opsCounts_jg : Tryz.prog.stopsHeard = true := ks_stops
theorem opsCounts_jh : Tryz.prog.mayEnter = true := ks_enter
theorem opsCounts_ji : (Rows.opsCountsRow.plainKeys == Tryz.prog.plainKeys) = true := ks_plain
theorem opsCounts_jj : (Rows.opsCountsRow.lifted == Tryz.prog.liftsFinal) = true := ks_lifted
theorem opsCounts_jk : (Tryz.prog.make == some Rows.opsCountsRow.make) = true := ks_make
theorem opsCounts_jl : (Rows.opsCountsRow.pinned == Rows.opsCountsRow.pinnedBy) = true := by kernel_rfl
theorem opsCounts_jm : Rows.opsCountsRow.wf (OpenSpec.ofChange Rows.opsCountsSpec) = true := by kernel_rfl
theorem opsCounts_joined : joinedFacts Tryz.prog 13 Tryz.f13 Rows.opsCountsSpec Rows.opsCountsRow = true := by
  unfold joinedFacts
  rw [opsCounts_ja, opsCounts_jb, opsCounts_jc, opsCounts_jd, opsCounts_je, opsCounts_jf, opsCounts_jg, opsCounts_jh, opsCounts_ji, opsCounts_jj, opsCounts_jk, opsCounts_jl, opsCounts_jm]
  kernel_rfl
theorem opsCounts_goes : false = Rows.opsCountsRow.goesBy Tryz.prog := by kernel_rfl
theorem opsCounts_looks : false = Tryz.prog.looks [] := ks_looks
theorem opsCounts_wfText : Rows.opsCountsRow.wfByText (OpenSpec.ofChange Rows.opsCountsSpec) = true := by kernel_rfl
theorem opsCounts_fnam : Tryz.prog.funcNamed "inkstand/inkstandlaw11.OpsCounts" = some 13 := by kernel_rfl

theorem opsCounts_said : Rows.OpsCountsSaid :=
  OpenClaim.holds_of_wide 13 Tryz.f13 rfl rfl rfl rfl rfl rfl rfl ⟨rfl, rfl, rfl, rfl, rfl⟩ rfl rfl rfl rfl rfl opsCounts_fnam Tryz.func13 opsCounts_joined
    (of_decide_eq_true (by kernel_rfl)) (by unfold Func.isWrapper; first | (rw [if_pos (by decide +kernel)]; kernel_rfl) | (rw [if_neg (by decide +kernel)]; exact ⟨rfl, rfl⟩))
    (fun os started H enc _ => opsCounts_lifted os started H enc)

theorem opsCounts_holds : Rows.OpsCountsCardSaid :=
  Claim7.holds_tied_plain_at .later [] _ _ _ _ opsCounts_said (fun _ h => by cases h) opsCounts_wfText (fun _ h => by cases h) opsCounts_row_tie rfl ⟨rfl, rfl⟩ (by kernel_rfl) rfl
    (fun f fn hf hfn => by
      obtain rfl : f = 13 := Option.some.inj ((show Tryz.prog.funcNamed "inkstand/inkstandlaw11.OpsCounts" = some 13 from opsCounts_fnam).symm.trans hf) |>.symm
      obtain rfl : fn = Tryz.f13 := (Option.some.inj (Tryz.func13.symm.trans hfn)).symm
      exact ⟨by exact opsCounts_looks, fun j t ht => by
        rw [Tryz.params13] at ht
        have hm : t ∈ [3] := by simpa using Array.mem_of_getElem? ht
        have hall : ([3].all fun u => !Tryz.prog.wantsStandIn u) = true := by kernel_rfl
        exact (show Tryz.prog.wantsStandIn t = false by simpa using List.all_eq_true.1 hall t hm)⟩)
    opsCounts_goes
#print axioms opsCounts_holds
end Go.Proofs.YtogcalejbddjjaaGreatDoor
