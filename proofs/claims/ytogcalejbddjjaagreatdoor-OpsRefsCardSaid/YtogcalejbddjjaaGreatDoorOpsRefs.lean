/- What would be a reference among operands is two numbers and an operator R, in an array it is a reference: the law OpsRefs of chapter 11 returns true for every two numbers, whatever memory the call begins in; the listed variables hold what their texts lay. -/
import Derived.Test.YtogcalejbddjjaaGreatDoorTyN7
import Derived.Test.YtogcalejbddjjaaGreatDoorTyKS
import Derived.Test.YtogcalejbddjjaaGreatDoorInkC
import Derived.Test.YtogcalejbddjjaaGreatDoorCards
import Derived.Test.YtogcalejbddjjaaGreatDoorTie
import Derived.ProofKit
import Derived.OpenShut
import Derived.LaidMore
import Derived.Lay
import Derived.SevenTiedAt
import Derived.Stop.Joined
import Derived.ChangeMaps5
import Derived.Stop.LaidErr
import Derived.Test.YtogcalejbddjjaaGreatDoorInkE
set_option linter.all false
namespace Go.Proofs.YtogcalejbddjjaaGreatDoor
open Go.ChangeShapes Go.WideShapes Go.ChangeAt Go.RowKit Go.ChangeMaps
set_option maxRecDepth 100000

theorem opsRefs_own : ownKnob Tryz.prog.godebug = none := by kernel_rfl

theorem opsRefs_tab {W : World} (h : laidMetH Tryz.prog Rows.opsRefsRow.laid W) : Lib.TabIs Tryz.prog W "internal/strconv.uint64pow10" .u64 Lib.pow10Tab := by
  rw [MakeChecks.laidMetH_plain _ _ _ (by kernel_rfl)] at h
  exact Lib.tabIs_of_head (n := 20) (g := (Tryz.prog.globalNamed "internal/strconv.uint64pow10").getD 0) (t := 271) (e := 225) (by kernel_rfl) (by kernel_rfl) (by kernel_rfl) (by kernel_rfl) (by kernel_rfl) (by kernel_rfl) h.tail.tail

theorem opsRefs_lifted (os : Os) (started : os.Started) (H : Type) (enc : TypeId × Value → H) :
    ReturnsInHanded {} Tryz.checked os 12 .any (fun w args => (Rows.opsRefsSpec.pre enc Tryz.prog Tryz.f12 Rows.opsRefsRow.domain false w args ∧ laidMetH Tryz.prog Rows.opsRefsRow.laid w) ∧ sizedMet enc Tryz.prog Tryz.f12 (OpenSpec.ofChange Rows.opsRefsSpec) false w args)
      (Rows.opsRefsSpec.post enc Tryz.prog Tryz.f12 false true false false) := by
  refine returnsInHanded_of_change_and (C := Tryz.checked) (X := fun w _ => laidMetH Tryz.prog Rows.opsRefsRow.laid w) (fun _ _ _ hh h => h.of_heap hh) opsRefs_own started (by kernel_rfl) Tryz.func12
    (ChangeSpec.witness_shaped (enc := enc) (C := Tryz.checked) (os := os) (X := fun w _ => laidMetH Tryz.prog Rows.opsRefsRow.laid w) false (World.laidAll Tryz.prog os Rows.opsRefsRow.laid) #[.int .i64 0, .int .i64 0] 8 (World.laidAll_os _ _ _)
      (World.shaped_of_ZipB (by kernel_rfl) (by kernel_rfl)) (by kernel_rfl) (by kernel_rfl) (by kernel_rfl)
      (by rw [MakeChecks.laidMetH_plain _ _ _ (by kernel_rfl)]; exact laidMet_laidAll _ (by kernel_rfl) (by kernel_rfl))) ?_
  intro W base args ds gs before hval0 hW hc hS hL _
  have hval : ∀ (j : Nat) t v, Tryz.f12.params[j]? = some t → args[j]? = some v → Value.okWide Tryz.prog W .any base t v := hval0
  refine Ink.law_post hW rfl (by kernel_rfl) Tryz.underlying4 (fun ds' hl => ?_) (by kernel_rfl) (by kernel_rfl) ?_
  · rw [Tryz.params12] at hl
    match ds', hl with
    | [d0, d1], _ => rfl
  · obtain ⟨p, q, hA0, hV, rfl, _, _⟩ := hW
    have hA : DataW.TrodAll enc Tryz.prog W 0 (fun _ => true) true Tryz.f12.params.toList args.toList ds p := hA0
    rw [Tryz.params12] at hA hval
    obtain ⟨v0, vs0, d0, ds0, p0, q0, hargs, rfl, rfl, h0, r0⟩ := trodAll_cons hA
    obtain ⟨v1, vs1, d1, ds1, p1, q1, rfl, rfl, rfl, h1, r1⟩ := trodAll_cons r0
    obtain ⟨rfl, rfl, rfl⟩ := trodAll_nil r1
    obtain rfl : args = #[v0, v1] := by cases args; simp_all
    obtain ⟨a0, rfl, _, _, w0⟩ := open_int Tryz.underlying3 (hval 0 3 v0 rfl rfl) h0
    have w0 := Ink.wf_ik w0
    obtain ⟨a1, rfl, _, _, w1⟩ := open_int Tryz.underlying3 (hval 1 3 v1 rfl rfl) h1
    have w1 := Ink.wf_ik w1
    have hT : Ink.D.TabE (Ink.envW Tryz.prog W) := fun c hg => Ink.tabW (opsRefs_tab hL) hg
    refine Ink.PCalls.callsW (args := [.int .i64 a0, .int .i64 a1]) (vs := [.int .i64 a0, .int .i64 a1]) Tryz.func12 rfl (by kernel_rfl) (Ink.D.opsRefs (E := Ink.envW Tryz.prog W) rfl hT a0 a1) ⟨rfl, ?_⟩
    intro j x v hx hv
    match j, hx, hv with
    | 0, hx, hv => cases hx; cases hv; exact .int _ _ w0
    | 1, hx, hv => cases hx; cases hv; exact .int _ _ w1
theorem opsRefs_ja : (Rows.opsRefsRow.inPlace == Tryz.prog.inPlace 12) = true := by kernel_rfl
theorem opsRefs_jb : (Rows.opsRefsRow.unfollowed == Tryz.prog.unfollowed 12) = true := by kernel_rfl
theorem opsRefs_jc : (Rows.opsRefsRow.recurses == Tryz.prog.recurses 12) = true := by kernel_rfl
theorem opsRefs_jd : (Rows.opsRefsRow.named == Tryz.prog.varsNamed 12) = true := by kernel_rfl
theorem opsRefs_je : laidOutB Tryz.prog = true := ks_laid
theorem opsRefs_jf : mapsRowed Tryz.prog = true := ks_maps
theorem opsRefs_jg : Tryz.prog.stopsHeard = true := ks_stops
theorem opsRefs_jh : Tryz.prog.mayEnter = true := ks_enter
theorem opsRefs_ji : (Rows.opsRefsRow.plainKeys == Tryz.prog.plainKeys) = true := ks_plain
theorem opsRefs_jj : (Rows.opsRefsRow.lifted == Tryz.prog.liftsFinal) = true := ks_lifted
theorem opsRefs_jk : (Tryz.prog.make == some Rows.opsRefsRow.make) = true := ks_make
theorem opsRefs_jl : (Rows.opsRefsRow.pinned == Rows.opsRefsRow.pinnedBy) = true := by kernel_rfl
theorem opsRefs_jm : Rows.opsRefsRow.wf (OpenSpec.ofChange Rows.opsRefsSpec) = true := by kernel_rfl
theorem opsRefs_joined : joinedFacts Tryz.prog 12 Tryz.f12 Rows.opsRefsSpec Rows.opsRefsRow = true := by
  unfold joinedFacts
  rw [opsRefs_ja, opsRefs_jb, opsRefs_jc, opsRefs_jd, opsRefs_je, opsRefs_jf, opsRefs_jg, opsRefs_jh, opsRefs_ji, opsRefs_jj, opsRefs_jk, opsRefs_jl, opsRefs_jm]
  kernel_rfl
theorem opsRefs_goes : false = Rows.opsRefsRow.goesBy Tryz.prog := by kernel_rfl
theorem opsRefs_looks : false = Tryz.prog.looks [] := ks_looks
theorem opsRefs_wfText : Rows.opsRefsRow.wfByText (OpenSpec.ofChange Rows.opsRefsSpec) = true := by kernel_rfl
theorem opsRefs_fnam : Tryz.prog.funcNamed "inkstand/inkstandlaw11.OpsRefs" = some 12 := by kernel_rfl

theorem opsRefs_said : Rows.OpsRefsSaid :=
  OpenClaim.holds_of_wide 12 Tryz.f12 rfl rfl rfl rfl rfl rfl rfl ⟨rfl, rfl, rfl, rfl, rfl⟩ rfl rfl rfl rfl rfl opsRefs_fnam Tryz.func12 opsRefs_joined
    (of_decide_eq_true (by kernel_rfl)) (by unfold Func.isWrapper; first | (rw [if_pos (by decide +kernel)]; kernel_rfl) | (rw [if_neg (by decide +kernel)]; exact ⟨rfl, rfl⟩))
    (fun os started H enc _ => opsRefs_lifted os started H enc)

theorem opsRefs_holds : Rows.OpsRefsCardSaid :=
  Claim7.holds_tied_plain_at .later [] _ _ _ _ opsRefs_said (fun _ h => by cases h) opsRefs_wfText (fun _ h => by cases h) opsRefs_row_tie rfl ⟨rfl, rfl⟩ (by kernel_rfl) rfl
    (fun f fn hf hfn => by
      obtain rfl : f = 12 := Option.some.inj ((show Tryz.prog.funcNamed "inkstand/inkstandlaw11.OpsRefs" = some 12 from opsRefs_fnam).symm.trans hf) |>.symm
      obtain rfl : fn = Tryz.f12 := (Option.some.inj (Tryz.func12.symm.trans hfn)).symm
      exact ⟨by exact opsRefs_looks, fun j t ht => by
        rw [Tryz.params12] at ht
        have hm : t ∈ [3, 3] := by simpa using Array.mem_of_getElem? ht
        have hall : ([3, 3].all fun u => !Tryz.prog.wantsStandIn u) = true := by kernel_rfl
        exact (show Tryz.prog.wantsStandIn t = false by simpa using List.all_eq_true.1 hall t hm)⟩)
    opsRefs_goes
#print axioms opsRefs_holds
end Go.Proofs.YtogcalejbddjjaaGreatDoor
