/- What is wrapped fits: the law OpsWrap of chapter 11 returns true for all operators handed in, whatever memory the call begins in; the listed variables hold what their texts lay. -/
import Derived.Test.YtogcalejbddjjaaGreatDoorTyQ2
import Derived.Test.YtogcalejbddjjaaGreatDoorTyKS
import Derived.Test.YtogcalejbddjjaaGreatDoorInkC
import Derived.Test.YtogcalejbddjjaaGreatDoorCards
import Derived.Test.YtogcalejbddjjaaGreatDoorTie
import Derived.ProofKit
import Derived.OpenShut
import Derived.LaidMore
import Derived.Lay
import Derived.SevenTiedAt
import Derived.Stop.Joined
import Derived.ChangeMaps5
import Derived.Stop.LaidErr
import Derived.Test.YtogcalejbddjjaaGreatDoorInkE
set_option linter.all false
namespace Go.Proofs.YtogcalejbddjjaaGreatDoor
open Go.ChangeShapes Go.WideShapes Go.ChangeAt Go.RowKit Go.ChangeMaps
set_option maxRecDepth 100000

theorem opsWrap_own : ownKnob Tryz.prog.godebug = none := by kernel_rfl

theorem opsWrap_tab {W : World} (h : laidMetH Tryz.prog Rows.opsWrapRow.laid W) : Lib.TabIs Tryz.prog W "internal/strconv.uint64pow10" .u64 Lib.pow10Tab := by
  rw [MakeChecks.laidMetH_plain _ _ _ (by kernel_rfl)] at h
  exact Lib.tabIs_of_head (n := 20) (g := (Tryz.prog.globalNamed "internal/strconv.uint64pow10").getD 0) (t := 271) (e := 225) (by kernel_rfl) (by kernel_rfl) (by kernel_rfl) (by kernel_rfl) (by kernel_rfl) (by kernel_rfl) h.tail.tail

theorem opsWrap_types : Ink.D.ObT Tryz.prog 3 22 9 23 24 26 106 where
  hI := by kernel_rfl
  hF := by kernel_rfl
  hS := by kernel_rfl
  hL := by kernel_rfl
  hD := by kernel_rfl
  hO := ⟨(match Tryz.prog.underlying 26 with | some (.struct fs) => fs | _ => #[]), by kernel_rfl, by kernel_rfl⟩
  hE := ⟨(match Tryz.prog.underlying 106 with | some (.struct fs) => fs | _ => #[]), by kernel_rfl, by kernel_rfl⟩
  cI := by kernel_rfl
  cF := by kernel_rfl
  cS := by kernel_rfl
  cL := by kernel_rfl
  cD := by kernel_rfl
  cO := by kernel_rfl
  cE := by kernel_rfl
  bO := of_decide_eq_true (by kernel_rfl)
  bE := of_decide_eq_true (by kernel_rfl)

theorem opsWrap_opt : Ink.D.OpT Tryz.prog 75 82 9 23 where
  hQ := by kernel_rfl
  hP := ⟨(match Tryz.prog.underlying 82 with | some (.struct fs) => fs | _ => #[]), by kernel_rfl, by kernel_rfl⟩
  cP := by kernel_rfl
  bP := of_decide_eq_true (by kernel_rfl)

theorem opsWrap_lifted (os : Os) (started : os.Started) (H : Type) (enc : TypeId × Value → H) :
    ReturnsInHanded {} Tryz.checked os 16 .any (fun w args => (Rows.opsWrapSpec.pre enc Tryz.prog Tryz.f16 Rows.opsWrapRow.domain false w args ∧ laidMetH Tryz.prog Rows.opsWrapRow.laid w) ∧ sizedMet enc Tryz.prog Tryz.f16 (OpenSpec.ofChange Rows.opsWrapSpec) false w args)
      (Rows.opsWrapSpec.post enc Tryz.prog Tryz.f16 false true false false) := by
  refine returnsInHanded_of_change_and (C := Tryz.checked) (X := fun w _ => laidMetH Tryz.prog Rows.opsWrapRow.laid w) (fun _ _ _ hh h => h.of_heap hh) opsWrap_own started (by kernel_rfl) Tryz.func16
    (ChangeSpec.witness_shaped (enc := enc) (C := Tryz.checked) (os := os) (X := fun w _ => laidMetH Tryz.prog Rows.opsWrapRow.laid w) false (World.laidAll Tryz.prog os Rows.opsWrapRow.laid) #[.slice none 0 0] 8 (World.laidAll_os _ _ _)
      (World.shaped_of_ZipB (by kernel_rfl) (by kernel_rfl)) (by kernel_rfl) (by kernel_rfl) (by kernel_rfl)
      (by rw [MakeChecks.laidMetH_plain _ _ _ (by kernel_rfl)]; exact laidMet_laidAll _ (by kernel_rfl) (by kernel_rfl))) ?_
  intro W base args ds gs before hval0 hW hc hS hL _
  have hval : ∀ (j : Nat) t v, Tryz.f16.params[j]? = some t → args[j]? = some v → Value.okWide Tryz.prog W .any base t v := hval0
  refine Ink.law_post hW rfl (by kernel_rfl) Tryz.underlying4 (fun ds' hl => ?_) (by kernel_rfl) (by kernel_rfl) ?_
  · rw [Tryz.params16] at hl
    match ds', hl with
    | [d0], _ => rfl
  · obtain ⟨p, q, hA0, hV, rfl, _, _⟩ := hW
    have hA : DataW.TrodAll enc Tryz.prog W 0 (fun _ => true) true Tryz.f16.params.toList args.toList ds p := hA0
    rw [Tryz.params16] at hA hval
    obtain ⟨v0, vs0, d0, ds0, p0, q0, hargs, rfl, rfl, h0, r0⟩ := trodAll_cons hA
    obtain ⟨rfl, rfl, rfl⟩ := trodAll_nil r0
    obtain rfl : args = #[v0] := by cases args; simp_all
    have hV' : DataW.TrodVars enc Tryz.prog W (fun _ => true) [] gs q := hV
    obtain ⟨rfl, rfl⟩ := trodVars_none hV'
    rw [Tryz.params16] at hS
    have hS1 : (DataW.weightsEach Tryz.prog [75] [d0]).all (· ≤ reachBytes) = true := hS
    have hwt : ∀ n ∈ DataW.weightsEach Tryz.prog [75] [d0], n ≤ 140737488351232 := fun n hn => Nat.le_trans (of_decide_eq_true (List.all_eq_true.mp hS1 n hn)) (by decide)
    obtain ⟨a0, x0, n0, w0⟩ := Ink.D.open_ops opsWrap_types opsWrap_opt (okWide_slice (t := 75) (e := 82) (by kernel_rfl) (hval 0 75 v0 rfl rfl)) h0 (fun n hn => hwt n (Ink.D.weightsEach_mem (i := 0) hn rfl rfl))
    have hT : Ink.D.TabE (Ink.envW Tryz.prog W) := fun c hg => Ink.tabW (opsWrap_tab hL) hg
    refine Ink.PCalls.callsW (args := [.imm 2 (Ink.D.opLs a0)]) (vs := [v0]) Tryz.func16 rfl (by kernel_rfl) (Ink.D.opsWrap (E := Ink.envW Tryz.prog W) rfl hT a0 n0 w0) ⟨rfl, ?_⟩
    intro j x v hx hv
    match j, hx, hv with
    | 0, hx, hv => cases hx; cases hv; exact x0
theorem opsWrap_ja : (Rows.opsWrapRow.inPlace == Tryz.prog.inPlace 16) = true := by kernel_rfl
theorem opsWrap_jb : (Rows.opsWrapRow.unfollowed == Tryz.prog.unfollowed 16) = true := by kernel_rfl
theorem opsWrap_jc : (Rows.opsWrapRow.recurses == Tryz.prog.recurses 16) = true := by kernel_rfl
theorem opsWrap_jd : (Rows.opsWrapRow.named == Tryz.prog.varsNamed 16) = true := by kernel_rfl
theorem opsWrap_je : laidOutB Tryz.prog = true := ks_laid
theorem opsWrap_jf : mapsRowed Tryz.prog = true := ks_maps
theorem opsWrap_jg : Tryz.prog.stopsHeard = true := ks_stops
theorem opsWrap_jh : Tryz.prog.mayEnter = true := ks_enter
theorem opsWrap_ji : (Rows.opsWrapRow.plainKeys == Tryz.prog.plainKeys) = true := ks_plain
theorem opsWrap_jj : (Rows.opsWrapRow.lifted == Tryz.prog.liftsFinal) = true := ks_lifted
theorem opsWrap_jk : (Tryz.prog.make == some Rows.opsWrapRow.make) = true := ks_make
theorem opsWrap_jl : (Rows.opsWrapRow.pinned == Rows.opsWrapRow.pinnedBy) = true := by kernel_rfl
theorem opsWrap_jm : Rows.opsWrapRow.wf (OpenSpec.ofChange Rows.opsWrapSpec) = true := by kernel_rfl
theorem opsWrap_joined : joinedFacts Tryz.prog 16 Tryz.f16 Rows.opsWrapSpec Rows.opsWrapRow = true := by
  unfold joinedFacts
  rw [opsWrap_ja, opsWrap_jb, opsWrap_jc, opsWrap_jd, opsWrap_je, opsWrap_jf, opsWrap_jg, opsWrap_jh, opsWrap_ji, opsWrap_jj, opsWrap_jk, opsWrap_jl, opsWrap_jm]
  kernel_rfl
theorem opsWrap_goes : false = Rows.opsWrapRow.goesBy Tryz.prog := by kernel_rfl
theorem opsWrap_looks : false = Tryz.prog.looks [] := ks_looks
theorem opsWrap_wfText : Rows.opsWrapRow.wfByText (OpenSpec.ofChange Rows.opsWrapSpec) = true := by kernel_rfl
theorem opsWrap_fnam : Tryz.prog.funcNamed "inkstand/inkstandlaw11.OpsWrap" = some 16 := by kernel_rfl

theorem opsWrap_said : Rows.OpsWrapSaid :=
  OpenClaim.holds_of_wide 16 Tryz.f16 rfl rfl rfl rfl rfl rfl rfl ⟨rfl, rfl, rfl, rfl, rfl⟩ rfl rfl rfl rfl rfl opsWrap_fnam Tryz.func16 opsWrap_joined
    (of_decide_eq_true (by kernel_rfl)) (by unfold Func.isWrapper; first | (rw [if_pos (by decide +kernel)]; kernel_rfl) | (rw [if_neg (by decide +kernel)]; exact ⟨rfl, rfl⟩))
    (fun os started H enc _ => opsWrap_lifted os started H enc)

theorem opsWrap_holds : Rows.OpsWrapCardSaid :=
  Claim7.holds_tied_plain_at .later [] _ _ _ _ opsWrap_said (fun _ h => by cases h) opsWrap_wfText (fun _ h => by cases h) opsWrap_row_tie rfl ⟨rfl, rfl⟩ (by kernel_rfl) rfl
    (fun f fn hf hfn => by
      obtain rfl : f = 16 := Option.some.inj ((show Tryz.prog.funcNamed "inkstand/inkstandlaw11.OpsWrap" = some 16 from opsWrap_fnam).symm.trans hf) |>.symm
      obtain rfl : fn = Tryz.f16 := (Option.some.inj (Tryz.func16.symm.trans hfn)).symm
      exact ⟨by exact opsWrap_looks, fun j t ht => by
        rw [Tryz.params16] at ht
        have hm : t ∈ [75] := by simpa using Array.mem_of_getElem? ht
        have hall : ([75].all fun u => !Tryz.prog.wantsStandIn u) = true := by kernel_rfl
        exact (show Tryz.prog.wantsStandIn t = false by simpa using List.all_eq_true.1 hall t hm)⟩)
    opsWrap_goes
#print axioms opsWrap_holds
end Go.Proofs.YtogcalejbddjjaaGreatDoor
