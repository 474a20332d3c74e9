/- There and back: the law OpsBack of chapter 11 returns true for all operators handed in, whatever memory the call begins in; the listed variables hold what their texts lay. -/
import Derived.Test.YtogcalejbddjjaaGreatDoorTyQ5
import Derived.Test.YtogcalejbddjjaaGreatDoorTyKS
import Derived.Test.YtogcalejbddjjaaGreatDoorInkC
import Derived.Test.YtogcalejbddjjaaGreatDoorCards
import Derived.Test.YtogcalejbddjjaaGreatDoorTie
import Derived.ProofKit
import Derived.OpenShut
import Derived.LaidMore
import Derived.Lay
import Derived.SevenTiedAt
import Derived.Stop.Joined
import Derived.ChangeMaps5
import Derived.Stop.LaidErr
import Derived.Test.YtogcalejbddjjaaGreatDoorInkE
set_option linter.all false
namespace Go.Proofs.YtogcalejbddjjaaGreatDoor
open Go.ChangeShapes Go.WideShapes Go.ChangeAt Go.RowKit Go.ChangeMaps
set_option maxRecDepth 100000

theorem opsBack_own : ownKnob Tryz.prog.godebug = none := by kernel_rfl

theorem opsBack_tab {W : World} (h : laidMetH Tryz.prog Rows.opsBackRow.laid W) : Lib.TabIs Tryz.prog W "internal/strconv.uint64pow10" .u64 Lib.pow10Tab := by
  rw [MakeChecks.laidMetH_plain _ _ _ (by kernel_rfl)] at h
  exact Lib.tabIs_of_head (n := 20) (g := (Tryz.prog.globalNamed "internal/strconv.uint64pow10").getD 0) (t := 271) (e := 225) (by kernel_rfl) (by kernel_rfl) (by kernel_rfl) (by kernel_rfl) (by kernel_rfl) (by kernel_rfl) h.tail.tail

theorem opsBack_types : Ink.D.ObT Tryz.prog 3 22 9 23 24 26 106 where
  hI := by kernel_rfl
  hF := by kernel_rfl
  hS := by kernel_rfl
  hL := by kernel_rfl
  hD := by kernel_rfl
  hO := ⟨(match Tryz.prog.underlying 26 with | some (.struct fs) => fs | _ => #[]), by kernel_rfl, by kernel_rfl⟩
  hE := ⟨(match Tryz.prog.underlying 106 with | some (.struct fs) => fs | _ => #[]), by kernel_rfl, by kernel_rfl⟩
  cI := by kernel_rfl
  cF := by kernel_rfl
  cS := by kernel_rfl
  cL := by kernel_rfl
  cD := by kernel_rfl
  cO := by kernel_rfl
  cE := by kernel_rfl
  bO := of_decide_eq_true (by kernel_rfl)
  bE := of_decide_eq_true (by kernel_rfl)

theorem opsBack_opt : Ink.D.OpT Tryz.prog 75 82 9 23 where
  hQ := by kernel_rfl
  hP := ⟨(match Tryz.prog.underlying 82 with | some (.struct fs) => fs | _ => #[]), by kernel_rfl, by kernel_rfl⟩
  cP := by kernel_rfl
  bP := of_decide_eq_true (by kernel_rfl)

theorem opsBack_lifted (os : Os) (started : os.Started) (H : Type) (enc : TypeId × Value → H) :
    ReturnsInHanded {} Tryz.checked os 15 .any (fun w args => (Rows.opsBackSpec.pre enc Tryz.prog Tryz.f15 Rows.opsBackRow.domain false w args ∧ laidMetH Tryz.prog Rows.opsBackRow.laid w) ∧ sizedMet enc Tryz.prog Tryz.f15 (OpenSpec.ofChange Rows.opsBackSpec) false w args)
      (Rows.opsBackSpec.post enc Tryz.prog Tryz.f15 false true false false) := by
  refine returnsInHanded_of_change_and (C := Tryz.checked) (X := fun w _ => laidMetH Tryz.prog Rows.opsBackRow.laid w) (fun _ _ _ hh h => h.of_heap hh) opsBack_own started (by kernel_rfl) Tryz.func15
    (ChangeSpec.witness_shaped (enc := enc) (C := Tryz.checked) (os := os) (X := fun w _ => laidMetH Tryz.prog Rows.opsBackRow.laid w) false (World.laidAll Tryz.prog os Rows.opsBackRow.laid) #[.slice none 0 0] 8 (World.laidAll_os _ _ _)
      (World.shaped_of_ZipB (by kernel_rfl) (by kernel_rfl)) (by kernel_rfl) (by kernel_rfl) (by kernel_rfl)
      (by rw [MakeChecks.laidMetH_plain _ _ _ (by kernel_rfl)]; exact laidMet_laidAll _ (by kernel_rfl) (by kernel_rfl))) ?_
  intro W base args ds gs before hval0 hW hc hS hL _
  have hval : ∀ (j : Nat) t v, Tryz.f15.params[j]? = some t → args[j]? = some v → Value.okWide Tryz.prog W .any base t v := hval0
  refine Ink.law_post hW rfl (by kernel_rfl) Tryz.underlying4 (fun ds' hl => ?_) (by kernel_rfl) (by kernel_rfl) ?_
  · rw [Tryz.params15] at hl
    match ds', hl with
    | [d0], _ => rfl
  · obtain ⟨p, q, hA0, hV, rfl, _, _⟩ := hW
    have hA : DataW.TrodAll enc Tryz.prog W 0 (fun _ => true) true Tryz.f15.params.toList args.toList ds p := hA0
    rw [Tryz.params15] at hA hval
    obtain ⟨v0, vs0, d0, ds0, p0, q0, hargs, rfl, rfl, h0, r0⟩ := trodAll_cons hA
    obtain ⟨rfl, rfl, rfl⟩ := trodAll_nil r0
    obtain rfl : args = #[v0] := by cases args; simp_all
    have hV' : DataW.TrodVars enc Tryz.prog W (fun _ => true) [] gs q := hV
    obtain ⟨rfl, rfl⟩ := trodVars_none hV'
    rw [Tryz.params15] at hS
    have hS1 : (DataW.weightsEach Tryz.prog [75] [d0]).all (· ≤ reachBytes) = true := hS
    have hwt : ∀ n ∈ DataW.weightsEach Tryz.prog [75] [d0], n ≤ 140737488351232 := fun n hn => Nat.le_trans (of_decide_eq_true (List.all_eq_true.mp hS1 n hn)) (by decide)
    obtain ⟨a0, x0, n0, w0⟩ := Ink.D.open_ops opsBack_types opsBack_opt (okWide_slice (t := 75) (e := 82) (by kernel_rfl) (hval 0 75 v0 rfl rfl)) h0 (fun n hn => hwt n (Ink.D.weightsEach_mem (i := 0) hn rfl rfl))
    have hT : Ink.D.TabE (Ink.envW Tryz.prog W) := fun c hg => Ink.tabW (opsBack_tab hL) hg
    refine Ink.PCalls.callsW (args := [.imm 2 (Ink.D.opLs a0)]) (vs := [v0]) Tryz.func15 rfl (by kernel_rfl) (Ink.D.opsBack (E := Ink.envW Tryz.prog W) rfl hT a0 n0 w0) ⟨rfl, ?_⟩
    intro j x v hx hv
    match j, hx, hv with
    | 0, hx, hv => cases hx; cases hv; exact x0
theorem opsBack_ja : (Rows.opsBackRow.inPlace == Tryz.prog.inPlace 15) = true := by kernel_rfl
theorem opsBack_jb : (Rows.opsBackRow.unfollowed == Tryz.prog.unfollowed 15) = true := by kernel_rfl
theorem opsBack_jc : (Rows.opsBackRow.recurses == Tryz.prog.recurses 15) = true := by kernel_rfl
theorem opsBack_jd : (Rows.opsBackRow.named == Tryz.prog.varsNamed 15) = true := by kernel_rfl
theorem opsBack_je : laidOutB Tryz.prog = true := ks_laid
theorem opsBack_jf : mapsRowed Tryz.prog = true := ks_maps
theorem opsBack_jg : Tryz.prog.stopsHeard = true := ks_stops
theorem opsBack_jh : Tryz.prog.mayEnter = true := ks_enter
theorem opsBack_ji : (Rows.opsBackRow.plainKeys == Tryz.prog.plainKeys) = true := ks_plain
theorem opsBack_jj : (Rows.opsBackRow.lifted == Tryz.prog.liftsFinal) = true := ks_lifted
theorem opsBack_jk : (Tryz.prog.make == some Rows.opsBackRow.make) = true := ks_make
theorem opsBack_jl : (Rows.opsBackRow.pinned == Rows.opsBackRow.pinnedBy) = true := by kernel_rfl
theorem opsBack_jm : Rows.opsBackRow.wf (OpenSpec.ofChange Rows.opsBackSpec) = true := by kernel_rfl
theorem opsBack_joined : joinedFacts Tryz.prog 15 Tryz.f15 Rows.opsBackSpec Rows.opsBackRow = true := by
  unfold joinedFacts
  rw [opsBack_ja, opsBack_jb, opsBack_jc, opsBack_jd, opsBack_je, opsBack_jf, opsBack_jg, opsBack_jh, opsBack_ji, opsBack_jj, opsBack_jk, opsBack_jl, opsBack_jm]
  kernel_rfl
theorem opsBack_goes : false = Rows.opsBackRow.goesBy Tryz.prog := by kernel_rfl
theorem opsBack_looks : false = Tryz.prog.looks [] := ks_looks
theorem opsBack_wfText : Rows.opsBackRow.wfByText (OpenSpec.ofChange Rows.opsBackSpec) = true := by kernel_rfl
theorem opsBack_fnam : Tryz.prog.funcNamed "inkstand/inkstandlaw11.OpsBack" = some 15 := by kernel_rfl

theorem opsBack_said : Rows.OpsBackSaid :=
  OpenClaim.holds_of_wide 15 Tryz.f15 rfl rfl rfl rfl rfl rfl rfl ⟨rfl, rfl, rfl, rfl, rfl⟩ rfl rfl rfl rfl rfl opsBack_fnam Tryz.func15 opsBack_joined
    (of_decide_eq_true (by kernel_rfl)) (by unfold Func.isWrapper; first | (rw [if_pos (by decide +kernel)]; kernel_rfl) | (rw [if_neg (by decide +kernel)]; exact ⟨rfl, rfl⟩))
    (fun os started H enc _ => opsBack_lifted os started H enc)

theorem opsBack_holds : Rows.OpsBackCardSaid :=
  Claim7.holds_tied_plain_at .later [] _ _ _ _ opsBack_said (fun _ h => by cases h) opsBack_wfText (fun _ h => by cases h) opsBack_row_tie rfl ⟨rfl, rfl⟩ (by kernel_rfl) rfl
    (fun f fn hf hfn => by
      obtain rfl : f = 15 := Option.some.inj ((show Tryz.prog.funcNamed "inkstand/inkstandlaw11.OpsBack" = some 15 from opsBack_fnam).symm.trans hf) |>.symm
      obtain rfl : fn = Tryz.f15 := (Option.some.inj (Tryz.func15.symm.trans hfn)).symm
      exact ⟨by exact opsBack_looks, fun j t ht => by
        rw [Tryz.params15] at ht
        have hm : t ∈ [75] := by simpa using Array.mem_of_getElem? ht
        have hall : ([75].all fun u => !Tryz.prog.wantsStandIn u) = true := by kernel_rfl
        exact (show Tryz.prog.wantsStandIn t = false by simpa using List.all_eq_true.1 hall t hm)⟩)
    opsBack_goes
#print axioms opsBack_holds
end Go.Proofs.YtogcalejbddjjaaGreatDoor
