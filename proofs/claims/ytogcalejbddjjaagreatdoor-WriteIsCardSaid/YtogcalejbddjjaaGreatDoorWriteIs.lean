/- Any object as a text, and any numbered one, and why not: the law WriteIs of chapter 5 returns true for all numbers and every object handed in, whatever memory the call begins in; the listed variables hold what their texts lay. -/
import Derived.Test.YtogcalejbddjjaaGreatDoorTyWI
import Derived.Test.YtogcalejbddjjaaGreatDoorTyKS
import Derived.Test.YtogcalejbddjjaaGreatDoorInkC
import Derived.Test.YtogcalejbddjjaaGreatDoorCards
import Derived.Test.YtogcalejbddjjaaGreatDoorTie
import Derived.ProofKit
import Derived.OpenShut
import Derived.LaidMore
import Derived.Lay
import Derived.SevenTiedAt
import Derived.Stop.Joined
import Derived.ChangeMaps5
import Derived.Stop.LaidErr
import Derived.Test.YtogcalejbddjjaaGreatDoorInkE
set_option linter.all false
namespace Go.Proofs.YtogcalejbddjjaaGreatDoor
open Go.ChangeShapes Go.WideShapes Go.ChangeAt Go.RowKit Go.ChangeMaps
set_option maxRecDepth 100000

theorem writeIs_own : ownKnob Tryz.prog.godebug = none := by kernel_rfl

theorem writeIs_tab {W : World} (h : laidMetH Tryz.prog Rows.writeIsRow.laid W) : Lib.TabIs Tryz.prog W "internal/strconv.uint64pow10" .u64 Lib.pow10Tab := by
  rw [MakeChecks.laidMetH_plain _ _ _ (by kernel_rfl)] at h
  exact Lib.tabIs_of_head (n := 20) (g := (Tryz.prog.globalNamed "internal/strconv.uint64pow10").getD 0) (t := 271) (e := 225) (by kernel_rfl) (by kernel_rfl) (by kernel_rfl) (by kernel_rfl) (by kernel_rfl) (by kernel_rfl) h.tail.tail

theorem writeIs_types : Ink.D.ObT Tryz.prog 3 22 9 23 24 26 106 where
  hI := by kernel_rfl
  hF := by kernel_rfl
  hS := by kernel_rfl
  hL := by kernel_rfl
  hD := by kernel_rfl
  hO := ⟨(match Tryz.prog.underlying 26 with | some (.struct fs) => fs | _ => #[]), by kernel_rfl, by kernel_rfl⟩
  hE := ⟨(match Tryz.prog.underlying 106 with | some (.struct fs) => fs | _ => #[]), by kernel_rfl, by kernel_rfl⟩
  cI := by kernel_rfl
  cF := by kernel_rfl
  cS := by kernel_rfl
  cL := by kernel_rfl
  cD := by kernel_rfl
  cO := by kernel_rfl
  cE := by kernel_rfl
  bO := of_decide_eq_true (by kernel_rfl)
  bE := of_decide_eq_true (by kernel_rfl)

theorem writeIs_lifted (os : Os) (started : os.Started) (H : Type) (enc : TypeId × Value → H) :
    ReturnsInHanded {} Tryz.checked os 3 .any (fun w args => (Rows.writeIsSpec.pre enc Tryz.prog Tryz.f3 Rows.writeIsRow.domain false w args ∧ laidMetH Tryz.prog Rows.writeIsRow.laid w) ∧ sizedMet enc Tryz.prog Tryz.f3 (OpenSpec.ofChange Rows.writeIsSpec) false w args)
      (Rows.writeIsSpec.post enc Tryz.prog Tryz.f3 false true false false) := by
  refine returnsInHanded_of_change_and (C := Tryz.checked) (X := fun w _ => laidMetH Tryz.prog Rows.writeIsRow.laid w) (fun _ _ _ hh h => h.of_heap hh) writeIs_own started (by kernel_rfl) Tryz.func3
    (ChangeSpec.witness_shaped (enc := enc) (C := Tryz.checked) (os := os) (X := fun w _ => laidMetH Tryz.prog Rows.writeIsRow.laid w) false (World.laidAll Tryz.prog os Rows.writeIsRow.laid) #[.int .i64 0, .int .i64 0, .agg #[.int .i64 0, .int .i64 0, .int .i64 0, .string ⟨#[]⟩, .slice none 0 0, .slice none 0 0]] 8 (World.laidAll_os _ _ _)
      (World.shaped_of_ZipB (by kernel_rfl) (by kernel_rfl)) (by kernel_rfl) (by kernel_rfl) (by kernel_rfl)
      (by rw [MakeChecks.laidMetH_plain _ _ _ (by kernel_rfl)]; exact laidMet_laidAll _ (by kernel_rfl) (by kernel_rfl))) ?_
  intro W base args ds gs before hval0 hW hc hS hL _
  have hval : ∀ (j : Nat) t v, Tryz.f3.params[j]? = some t → args[j]? = some v → Value.okWide Tryz.prog W .any base t v := hval0
  refine Ink.law_post hW rfl (by kernel_rfl) Tryz.underlying4 (fun ds' hl => ?_) (by kernel_rfl) (by kernel_rfl) ?_
  · rw [Tryz.params3] at hl
    match ds', hl with
    | [d0, d1, d2], _ => rfl
  · obtain ⟨p, q, hA0, hV, rfl, _, _⟩ := hW
    have hA : DataW.TrodAll enc Tryz.prog W 0 (fun _ => true) true Tryz.f3.params.toList args.toList ds p := hA0
    rw [Tryz.params3] at hA hval
    obtain ⟨v0, vs0, d0, ds0, p0, q0, hargs, rfl, rfl, h0, r0⟩ := trodAll_cons hA
    obtain ⟨v1, vs1, d1, ds1, p1, q1, rfl, rfl, rfl, h1, r1⟩ := trodAll_cons r0
    obtain ⟨v2, vs2, d2, ds2, p2, q2, rfl, rfl, rfl, h2, r2⟩ := trodAll_cons r1
    obtain ⟨rfl, rfl, rfl⟩ := trodAll_nil r2
    obtain rfl : args = #[v0, v1, v2] := by cases args; simp_all
    have hV' : DataW.TrodVars enc Tryz.prog W (fun _ => true) [] gs q := hV
    obtain ⟨rfl, rfl⟩ := trodVars_none hV'
    rw [Tryz.params3] at hS
    have hS1 : (DataW.weightsEach Tryz.prog [3, 3, 26] [d0, d1, d2]).all (· ≤ reachBytes) = true := hS
    have hwt : ∀ n ∈ DataW.weightsEach Tryz.prog [3, 3, 26] [d0, d1, d2], n ≤ 140737488351232 := fun n hn => Nat.le_trans (of_decide_eq_true (List.all_eq_true.mp hS1 n hn)) (by decide)
    obtain ⟨a0, rfl, _, _, w0⟩ := open_int Tryz.underlying3 (hval 0 3 v0 rfl rfl) h0
    have w0 := Ink.wf_ik w0
    obtain ⟨a1, rfl, _, _, w1⟩ := open_int Tryz.underlying3 (hval 1 3 v1 rfl rfl) h1
    have w1 := Ink.wf_ik w1
    obtain ⟨a2, x2, w2⟩ := Ink.D.open_obj writeIs_types h2 (fun n hn => hwt n (Ink.D.weightsEach_mem (i := 2) hn rfl rfl))
    have hT : Ink.D.TabE (Ink.envW Tryz.prog W) := fun c hg => Ink.tabW (writeIs_tab hL) hg
    refine Ink.PCalls.callsW (args := [.int .i64 a0, .int .i64 a1, .agg (Ink.D.obC a2)]) (vs := [.int .i64 a0, .int .i64 a1, v2]) Tryz.func3 rfl (by kernel_rfl) (Ink.D.writeIs (E := Ink.envW Tryz.prog W) rfl hT a0 a1 a2 w2) ⟨rfl, ?_⟩
    intro j x v hx hv
    match j, hx, hv with
    | 0, hx, hv => cases hx; cases hv; exact .int _ _ w0
    | 1, hx, hv => cases hx; cases hv; exact .int _ _ w1
    | 2, hx, hv => cases hx; cases hv; exact x2
theorem writeIs_ja : (Rows.writeIsRow.inPlace == Tryz.prog.inPlace 3) = true := by kernel_rfl
theorem writeIs_jb : (Rows.writeIsRow.unfollowed == Tryz.prog.unfollowed 3) = true := by kernel_rfl
theorem writeIs_jc : (Rows.writeIsRow.recurses == Tryz.prog.recurses 3) = true := by kernel_rfl
theorem writeIs_jd : (Rows.writeIsRow.named == Tryz.prog.varsNamed 3) = true := by kernel_rfl
theorem writeIs_je : laidOutB Tryz.prog = true := ks_laid
theorem writeIs_jf : mapsRowed Tryz.prog = true := ks_maps
theorem writeIs_jg : Tryz.prog.stopsHeard = true := ks_stops
theorem writeIs_jh : Tryz.prog.mayEnter = true := ks_enter
theorem writeIs_ji : (Rows.writeIsRow.plainKeys == Tryz.prog.plainKeys) = true := ks_plain
theorem writeIs_jj : (Rows.writeIsRow.lifted == Tryz.prog.liftsFinal) = true := ks_lifted
theorem writeIs_jk : (Tryz.prog.make == some Rows.writeIsRow.make) = true := ks_make
theorem writeIs_jl : (Rows.writeIsRow.pinned == Rows.writeIsRow.pinnedBy) = true := by kernel_rfl
theorem writeIs_jm : Rows.writeIsRow.wf (OpenSpec.ofChange Rows.writeIsSpec) = true := by kernel_rfl
theorem writeIs_joined : joinedFacts Tryz.prog 3 Tryz.f3 Rows.writeIsSpec Rows.writeIsRow = true := by
  unfold joinedFacts
  rw [writeIs_ja, writeIs_jb, writeIs_jc, writeIs_jd, writeIs_je, writeIs_jf, writeIs_jg, writeIs_jh, writeIs_ji, writeIs_jj, writeIs_jk, writeIs_jl, writeIs_jm]
  kernel_rfl
theorem writeIs_goes : false = Rows.writeIsRow.goesBy Tryz.prog := by kernel_rfl
theorem writeIs_looks : false = Tryz.prog.looks [] := ks_looks
theorem writeIs_wfText : Rows.writeIsRow.wfByText (OpenSpec.ofChange Rows.writeIsSpec) = true := by kernel_rfl
theorem writeIs_fnam : Tryz.prog.funcNamed "inkstand/inkstandlaw05.WriteIs" = some 3 := by kernel_rfl

theorem writeIs_said : Rows.WriteIsSaid :=
  OpenClaim.holds_of_wide 3 Tryz.f3 rfl rfl rfl rfl rfl rfl rfl ⟨rfl, rfl, rfl, rfl, rfl⟩ rfl rfl rfl rfl rfl writeIs_fnam Tryz.func3 writeIs_joined
    (of_decide_eq_true (by kernel_rfl)) (by unfold Func.isWrapper; first | (rw [if_pos (by decide +kernel)]; kernel_rfl) | (rw [if_neg (by decide +kernel)]; exact ⟨rfl, rfl⟩))
    (fun os started H enc _ => writeIs_lifted os started H enc)

theorem writeIs_holds : Rows.WriteIsCardSaid :=
  Claim7.holds_tied_plain_at .later [] _ _ _ _ writeIs_said (fun _ h => by cases h) writeIs_wfText (fun _ h => by cases h) writeIs_row_tie rfl ⟨rfl, rfl⟩ (by kernel_rfl) rfl
    (fun f fn hf hfn => by
      obtain rfl : f = 3 := Option.some.inj ((show Tryz.prog.funcNamed "inkstand/inkstandlaw05.WriteIs" = some 3 from writeIs_fnam).symm.trans hf) |>.symm
      obtain rfl : fn = Tryz.f3 := (Option.some.inj (Tryz.func3.symm.trans hfn)).symm
      exact ⟨by exact writeIs_looks, fun j t ht => by
        rw [Tryz.params3] at ht
        have hm : t ∈ [3, 3, 26] := by simpa using Array.mem_of_getElem? ht
        have hall : ([3, 3, 26].all fun u => !Tryz.prog.wantsStandIn u) = true := by kernel_rfl
        exact (show Tryz.prog.wantsStandIn t = false by simpa using List.all_eq_true.1 hall t hm)⟩)
    writeIs_goes
#print axioms writeIs_holds
end Go.Proofs.YtogcalejbddjjaaGreatDoor
