/- WriteParts: the text of an array is the texts of its objects between brackets, and so it is with a dictionary, or all three say why not; for every two objects. The row lists tables of math/bits, internal/strconv and unicode/utf8, tied by the card; no ring in the inputs. -/
import Derived.Test.YtipdgghfkdlfmaaDoorPWrF
import Derived.Test.YtipdgghfkdlfmaaDoorInkC
import Derived.Test.YtipdgghfkdlfmaaDoorCards
import Derived.Test.YtipdgghfkdlfmaaDoorTie
import Derived.ProofKit
import Derived.OpenShut
import Derived.LaidMore
import Derived.Lay
import Derived.SevenTiedAt
import Derived.Stop.Joined
import Derived.ChangeMaps5
import Derived.Stop.LaidErr
import Derived.Test.YtipdgghfkdlfmaaDoorInkE
set_option linter.all false
namespace Go.Proofs.YtipdgghfkdlfmaaDoor
open Go.ChangeShapes Go.WideShapes Go.ChangeAt Go.RowKit Go.ChangeMaps
set_option maxRecDepth 100000

theorem writeParts_own : ownKnob Tryd.prog.godebug = none := by kernel_rfl

theorem writeParts_tab {W : World} (h : laidMetH Tryd.prog Rows.writePartsRow.laid W) : Lib.TabIs Tryd.prog W "internal/strconv.uint64pow10" .u64 Lib.pow10Tab := by
  rw [MakeChecks.laidMetH_plain _ _ _ (by kernel_rfl)] at h
  exact Lib.tabIs_of_head (n := 20) (g := (Tryd.prog.globalNamed "internal/strconv.uint64pow10").getD 0) (t := 178) (e := 162) (by kernel_rfl) (by kernel_rfl) (by kernel_rfl) (by kernel_rfl) (by kernel_rfl) (by kernel_rfl) h.tail.tail

theorem writeParts_types : Ink.D.ObT Tryd.prog 3 23 9 44 45 47 55 where
  hI := by kernel_rfl
  hF := by kernel_rfl
  hS := by kernel_rfl
  hL := by kernel_rfl
  hD := by kernel_rfl
  hO := ⟨(match Tryd.prog.underlying 47 with | some (.struct fs) => fs | _ => #[]), by kernel_rfl, by kernel_rfl⟩
  hE := ⟨(match Tryd.prog.underlying 55 with | some (.struct fs) => fs | _ => #[]), by kernel_rfl, by kernel_rfl⟩
  cI := by kernel_rfl
  cF := by kernel_rfl
  cS := by kernel_rfl
  cL := by kernel_rfl
  cD := by kernel_rfl
  cO := by kernel_rfl
  cE := by kernel_rfl
  bO := of_decide_eq_true (by kernel_rfl)
  bE := of_decide_eq_true (by kernel_rfl)

theorem writeParts_lifted (os : Os) (started : os.Started) (H : Type) (enc : TypeId × Value → H) :
    ReturnsInHanded {} Tryd.checked os 12 .any (fun w args => (Rows.writePartsSpec.pre enc Tryd.prog Tryd.f12 Rows.writePartsRow.domain false w args ∧ laidMetH Tryd.prog Rows.writePartsRow.laid w) ∧ sizedMet enc Tryd.prog Tryd.f12 (OpenSpec.ofChange Rows.writePartsSpec) false w args)
      (Rows.writePartsSpec.post enc Tryd.prog Tryd.f12 false true false false) := by
  refine returnsInHanded_of_change_and (C := Tryd.checked) (X := fun w _ => laidMetH Tryd.prog Rows.writePartsRow.laid w) (fun _ _ _ hh h => h.of_heap hh) writeParts_own started (by kernel_rfl) Tryd.func12
    (ChangeSpec.witness_shaped (enc := enc) (C := Tryd.checked) (os := os) (X := fun w _ => laidMetH Tryd.prog Rows.writePartsRow.laid w) false (World.laidAll Tryd.prog os Rows.writePartsRow.laid) #[.agg #[.int .i64 0, .int .i64 0, .int .i64 0, .string ⟨#[]⟩, .slice none 0 0, .slice none 0 0], .agg #[.int .i64 0, .int .i64 0, .int .i64 0, .string ⟨#[]⟩, .slice none 0 0, .slice none 0 0]] 8 (World.laidAll_os _ _ _)
      (World.shaped_of_ZipB (by kernel_rfl) (by kernel_rfl)) (by kernel_rfl) (by kernel_rfl) (by kernel_rfl)
      (by rw [MakeChecks.laidMetH_plain _ _ _ (by kernel_rfl)]; exact laidMet_laidAll _ (by kernel_rfl) (by kernel_rfl))) ?_
  intro W base args ds gs before hval0 hW hc hS hL _
  have hval : ∀ (j : Nat) t v, Tryd.f12.params[j]? = some t → args[j]? = some v → Value.okWide Tryd.prog W .any base t v := hval0
  refine Ink.law_post hW rfl (by kernel_rfl) Tryd.underlying4 (fun ds' hl => ?_) (by kernel_rfl) (by kernel_rfl) ?_
  · rw [Tryd.params12] at hl
    match ds', hl with
    | [d0, d1], _ => rfl
  · obtain ⟨p, q, hA0, hV, rfl, _, _⟩ := hW
    have hA : DataW.TrodAll enc Tryd.prog W 0 (fun _ => true) true Tryd.f12.params.toList args.toList ds p := hA0
    rw [Tryd.params12] at hA hval
    obtain ⟨v0, vs0, d0, ds0, p0, q0, hargs, rfl, rfl, h0, r0⟩ := trodAll_cons hA
    obtain ⟨v1, vs1, d1, ds1, p1, q1, rfl, rfl, rfl, h1, r1⟩ := trodAll_cons r0
    obtain ⟨rfl, rfl, rfl⟩ := trodAll_nil r1
    obtain rfl : args = #[v0, v1] := by cases args; simp_all
    have hV' : DataW.TrodVars enc Tryd.prog W (fun _ => true) [] gs q := hV
    obtain ⟨rfl, rfl⟩ := trodVars_none hV'
    rw [Tryd.params12] at hS
    have hS1 : (DataW.weightsEach Tryd.prog [47, 47] [d0, d1]).all (· ≤ reachBytes) = true := hS
    have hwt : ∀ n ∈ DataW.weightsEach Tryd.prog [47, 47] [d0, d1], n ≤ 140737488351232 := fun n hn => Nat.le_trans (of_decide_eq_true (List.all_eq_true.mp hS1 n hn)) (by decide)
    obtain ⟨a0, x0, w0⟩ := Ink.D.open_obj writeParts_types h0 (fun n hn => hwt n (Ink.D.weightsEach_mem (i := 0) hn rfl rfl))
    obtain ⟨a1, x1, w1⟩ := Ink.D.open_obj writeParts_types h1 (fun n hn => hwt n (Ink.D.weightsEach_mem (i := 1) hn rfl rfl))
    have hT : Ink.D.TabE (Ink.envW Tryd.prog W) := fun c hg => Ink.tabW (writeParts_tab hL) hg
    refine Ink.PCalls.callsW (args := [.agg (Ink.D.obC a0), .agg (Ink.D.obC a1)]) (vs := [v0, v1]) Tryd.func12 rfl (by kernel_rfl) (Ink.D.writeParts (E := Ink.envW Tryd.prog W) rfl hT a0 a1 w0 w1) ⟨rfl, ?_⟩
    intro j x v hx hv
    match j, hx, hv with
    | 0, hx, hv => cases hx; cases hv; exact x0
    | 1, hx, hv => cases hx; cases hv; exact x1

theorem writeParts_said : Rows.WritePartsSaid :=
  OpenClaim.holds_of_wide 12 Tryd.f12 rfl rfl rfl rfl rfl rfl rfl ⟨rfl, rfl, rfl, rfl, rfl⟩ rfl rfl rfl rfl rfl (by kernel_rfl) Tryd.func12 (by kernel_rfl)
    (of_decide_eq_true (by kernel_rfl)) (by unfold Func.isWrapper; first | (rw [if_pos (by decide +kernel)]; kernel_rfl) | (rw [if_neg (by decide +kernel)]; exact ⟨rfl, rfl⟩))
    (fun os started H enc _ => writeParts_lifted os started H enc)

theorem writeParts_holds : Rows.WritePartsCardSaid :=
  Claim7.holds_tied_plain_at .later [] _ _ _ _ writeParts_said (fun _ h => by cases h) (by kernel_rfl) (fun _ h => by cases h) writeParts_row_tie rfl ⟨rfl, rfl⟩ (by kernel_rfl) rfl
    (fun f fn hf hfn => by
      obtain rfl : f = 12 := Option.some.inj ((show Tryd.prog.funcNamed "inkstand/inkstandlaw05.WriteParts" = some 12 by kernel_rfl).symm.trans hf) |>.symm
      obtain rfl : fn = Tryd.f12 := (Option.some.inj (Tryd.func12.symm.trans hfn)).symm
      exact ⟨by kernel_rfl, fun j t ht => by
        rw [Tryd.params12] at ht
        have hm : t ∈ [47, 47] := by simpa using Array.mem_of_getElem? ht
        have hall : ([47, 47].all fun u => !Tryd.prog.wantsStandIn u) = true := by kernel_rfl
        exact (show Tryd.prog.wantsStandIn t = false by simpa using List.all_eq_true.1 hall t hm)⟩)
    (by kernel_rfl)
#print axioms writeParts_holds
end Go.Proofs.YtipdgghfkdlfmaaDoor
