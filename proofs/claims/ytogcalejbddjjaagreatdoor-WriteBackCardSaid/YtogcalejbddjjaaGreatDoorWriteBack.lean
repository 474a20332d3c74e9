/- Any object that is written is read as it was, whole: the law WriteBack of chapter 5 returns true for every object, whatever memory the call begins in; the listed variable holds what its text lays. -/
import Derived.Test.YtogcalejbddjjaaGreatDoorTyV2
import Derived.Test.YtogcalejbddjjaaGreatDoorInkC
import Derived.Test.YtogcalejbddjjaaGreatDoorCards
import Derived.Test.YtogcalejbddjjaaGreatDoorTie
import Derived.ProofKit
import Derived.OpenShut
import Derived.LaidMore
import Derived.Lay
import Derived.SevenTiedAt
import Derived.Stop.Joined
import Derived.ChangeMaps5
import Derived.Stop.LaidErr
import Derived.Test.YtogcalejbddjjaaGreatDoorInkE
set_option linter.all false
namespace Go.Proofs.YtogcalejbddjjaaGreatDoor
open Go.ChangeShapes Go.WideShapes Go.ChangeAt Go.RowKit Go.ChangeMaps
set_option maxRecDepth 100000

theorem writeBack_own : ownKnob Tryz.prog.godebug = none := by kernel_rfl

theorem writeBack_tab {W : World} (h : laidMetH Tryz.prog Rows.writeBackRow.laid W) : Lib.TabIs Tryz.prog W "internal/strconv.uint64pow10" .u64 Lib.pow10Tab := by
  rw [MakeChecks.laidMetH_plain _ _ _ (by kernel_rfl)] at h
  exact Lib.tabIs_of_head (n := 20) (g := (Tryz.prog.globalNamed "internal/strconv.uint64pow10").getD 0) (t := 271) (e := 225) (by kernel_rfl) (by kernel_rfl) (by kernel_rfl) (by kernel_rfl) (by kernel_rfl) (by kernel_rfl) h.tail.tail

theorem writeBack_types : Ink.D.ObT Tryz.prog 3 22 9 23 24 26 106 where
  hI := by kernel_rfl
  hF := by kernel_rfl
  hS := by kernel_rfl
  hL := by kernel_rfl
  hD := by kernel_rfl
  hO := ⟨(match Tryz.prog.underlying 26 with | some (.struct fs) => fs | _ => #[]), by kernel_rfl, by kernel_rfl⟩
  hE := ⟨(match Tryz.prog.underlying 106 with | some (.struct fs) => fs | _ => #[]), by kernel_rfl, by kernel_rfl⟩
  cI := by kernel_rfl
  cF := by kernel_rfl
  cS := by kernel_rfl
  cL := by kernel_rfl
  cD := by kernel_rfl
  cO := by kernel_rfl
  cE := by kernel_rfl
  bO := of_decide_eq_true (by kernel_rfl)
  bE := of_decide_eq_true (by kernel_rfl)

theorem writeBack_lifted (os : Os) (started : os.Started) (H : Type) (enc : TypeId × Value → H) :
    ReturnsInHanded {} Tryz.checked os 4 .any (fun w args => (Rows.writeBackSpec.pre enc Tryz.prog Tryz.f4 Rows.writeBackRow.domain false w args ∧ laidMetH Tryz.prog Rows.writeBackRow.laid w) ∧ sizedMet enc Tryz.prog Tryz.f4 (OpenSpec.ofChange Rows.writeBackSpec) false w args)
      (Rows.writeBackSpec.post enc Tryz.prog Tryz.f4 false true false false) := by
  refine returnsInHanded_of_change_and (C := Tryz.checked) (X := fun w _ => laidMetH Tryz.prog Rows.writeBackRow.laid w) (fun _ _ _ hh h => h.of_heap hh) writeBack_own started (by kernel_rfl) Tryz.func4
    (ChangeSpec.witness_shaped (enc := enc) (C := Tryz.checked) (os := os) (X := fun w _ => laidMetH Tryz.prog Rows.writeBackRow.laid w) false (World.laidAll Tryz.prog os Rows.writeBackRow.laid) #[.agg #[.int .i64 0, .int .i64 0, .int .i64 0, .string ⟨#[]⟩, .slice none 0 0, .slice none 0 0]] 8 (World.laidAll_os _ _ _)
      (World.shaped_of_ZipB (by kernel_rfl) (by kernel_rfl)) (by kernel_rfl) (by kernel_rfl) (by kernel_rfl)
      (by rw [MakeChecks.laidMetH_plain _ _ _ (by kernel_rfl)]; exact laidMet_laidAll _ (by kernel_rfl) (by kernel_rfl))) ?_
  intro W base args ds gs before hval0 hW hc hS hL _
  have hval : ∀ (j : Nat) t v, Tryz.f4.params[j]? = some t → args[j]? = some v → Value.okWide Tryz.prog W .any base t v := hval0
  refine Ink.law_post hW rfl (by kernel_rfl) Tryz.underlying4 (fun ds' hl => ?_) (by kernel_rfl) (by kernel_rfl) ?_
  · rw [Tryz.params4] at hl
    match ds', hl with
    | [d0], _ => rfl
  · obtain ⟨p, q, hA0, hV, rfl, _, _⟩ := hW
    have hA : DataW.TrodAll enc Tryz.prog W 0 (fun _ => true) true Tryz.f4.params.toList args.toList ds p := hA0
    rw [Tryz.params4] at hA hval
    obtain ⟨v0, vs0, d0, ds0, p0, q0, hargs, rfl, rfl, h0, r0⟩ := trodAll_cons hA
    obtain ⟨rfl, rfl, rfl⟩ := trodAll_nil r0
    obtain rfl : args = #[v0] := by cases args; simp_all
    have hV' : DataW.TrodVars enc Tryz.prog W (fun _ => true) [] gs q := hV
    obtain ⟨rfl, rfl⟩ := trodVars_none hV'
    rw [Tryz.params4] at hS
    have hS1 : (DataW.weightsEach Tryz.prog [26] [d0]).all (· ≤ reachBytes) = true := hS
    have hwt : ∀ n ∈ DataW.weightsEach Tryz.prog [26] [d0], n ≤ 140737488351232 := fun n hn => Nat.le_trans (of_decide_eq_true (List.all_eq_true.mp hS1 n hn)) (by decide)
    obtain ⟨a0, x0, w0⟩ := Ink.D.open_obj writeBack_types h0 (fun n hn => hwt n (Ink.D.weightsEach_mem (i := 0) hn rfl rfl))
    have hT : Ink.D.TabE (Ink.envW Tryz.prog W) := fun c hg => Ink.tabW (writeBack_tab hL) hg
    refine Ink.PCalls.callsW (args := [.agg (Ink.D.obC a0)]) (vs := [v0]) Tryz.func4 rfl (by kernel_rfl) (Ink.D.writeBack (E := Ink.envW Tryz.prog W) rfl hT a0 w0) ⟨rfl, ?_⟩
    intro j x v hx hv
    match j, hx, hv with
    | 0, hx, hv => cases hx; cases hv; exact x0
theorem writeBack_ja : (Rows.writeBackRow.inPlace == Tryz.prog.inPlace 4) = true := by kernel_rfl
theorem writeBack_jb : (Rows.writeBackRow.unfollowed == Tryz.prog.unfollowed 4) = true := by kernel_rfl
theorem writeBack_jc : (Rows.writeBackRow.recurses == Tryz.prog.recurses 4) = true := by kernel_rfl
theorem writeBack_jd : (Rows.writeBackRow.named == Tryz.prog.varsNamed 4) = true := by kernel_rfl
theorem writeBack_je : laidOutB Tryz.prog = true := by kernel_rfl
theorem writeBack_jf : mapsRowed Tryz.prog = true := by kernel_rfl
theorem writeBack_jg : Tryz.prog.stopsHeard = true := by kernel_rfl
theorem writeBack_jh : Tryz.prog.mayEnter = true := by kernel_rfl
theorem writeBack_ji : (Rows.writeBackRow.plainKeys == Tryz.prog.plainKeys) = true := by kernel_rfl
theorem writeBack_jj : (Rows.writeBackRow.lifted == Tryz.prog.liftsFinal) = true := by kernel_rfl
theorem writeBack_jk : (Tryz.prog.make == some Rows.writeBackRow.make) = true := by kernel_rfl
theorem writeBack_jl : (Rows.writeBackRow.pinned == Rows.writeBackRow.pinnedBy) = true := by kernel_rfl
theorem writeBack_jm : Rows.writeBackRow.wf (OpenSpec.ofChange Rows.writeBackSpec) = true := by kernel_rfl
theorem writeBack_joined : joinedFacts Tryz.prog 4 Tryz.f4 Rows.writeBackSpec Rows.writeBackRow = true := by
  unfold joinedFacts
  rw [writeBack_ja, writeBack_jb, writeBack_jc, writeBack_jd, writeBack_je, writeBack_jf, writeBack_jg, writeBack_jh, writeBack_ji, writeBack_jj, writeBack_jk, writeBack_jl, writeBack_jm]
  kernel_rfl
theorem writeBack_goes : false = Rows.writeBackRow.goesBy Tryz.prog := by kernel_rfl
theorem writeBack_looks : false = Tryz.prog.looks [] := by kernel_rfl
theorem writeBack_wfText : Rows.writeBackRow.wfByText (OpenSpec.ofChange Rows.writeBackSpec) = true := by kernel_rfl
theorem writeBack_fnam : Tryz.prog.funcNamed "inkstand/inkstandlaw05.WriteBack" = some 4 := by kernel_rfl

theorem writeBack_said : Rows.WriteBackSaid :=
  OpenClaim.holds_of_wide 4 Tryz.f4 rfl rfl rfl rfl rfl rfl rfl ⟨rfl, rfl, rfl, rfl, rfl⟩ rfl rfl rfl rfl rfl writeBack_fnam Tryz.func4 writeBack_joined
    (of_decide_eq_true (by kernel_rfl)) (by unfold Func.isWrapper; first | (rw [if_pos (by decide +kernel)]; kernel_rfl) | (rw [if_neg (by decide +kernel)]; exact ⟨rfl, rfl⟩))
    (fun os started H enc _ => writeBack_lifted os started H enc)

theorem writeBack_holds : Rows.WriteBackCardSaid :=
  Claim7.holds_tied_plain_at .later [] _ _ _ _ writeBack_said (fun _ h => by cases h) writeBack_wfText (fun _ h => by cases h) writeBack_row_tie rfl ⟨rfl, rfl⟩ (by kernel_rfl) rfl
    (fun f fn hf hfn => by
      obtain rfl : f = 4 := Option.some.inj ((show Tryz.prog.funcNamed "inkstand/inkstandlaw05.WriteBack" = some 4 from writeBack_fnam).symm.trans hf) |>.symm
      obtain rfl : fn = Tryz.f4 := (Option.some.inj (Tryz.func4.symm.trans hfn)).symm
      exact ⟨by exact writeBack_looks, fun j t ht => by
        rw [Tryz.params4] at ht
        have hm : t ∈ [26] := by simpa using Array.mem_of_getElem? ht
        have hall : ([26].all fun u => !Tryz.prog.wantsStandIn u) = true := by kernel_rfl
        exact (show Tryz.prog.wantsStandIn t = false by simpa using List.all_eq_true.1 hall t hm)⟩)
    writeBack_goes
#print axioms writeBack_holds
end Go.Proofs.YtogcalejbddjjaaGreatDoor
