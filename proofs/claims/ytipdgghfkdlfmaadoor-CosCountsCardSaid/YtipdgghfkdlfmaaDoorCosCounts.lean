/- CosCounts: names that are set one behind the other are counted, stand in their order and are got again; taken away none is left. The row lists two tables of unicode/utf8, tied by the card. -/
import Derived.Test.YtipdgghfkdlfmaaDoorPCosD
import Derived.Test.YtipdgghfkdlfmaaDoorInkC
import Derived.Test.YtipdgghfkdlfmaaDoorCards
import Derived.Test.YtipdgghfkdlfmaaDoorTie
import Derived.ProofKit
import Derived.OpenShut
import Derived.LaidMore
import Derived.Lay
import Derived.SevenTiedAt
import Derived.Stop.Joined
import Derived.ChangeMaps5
set_option linter.all false
namespace Go.Proofs.YtipdgghfkdlfmaaDoor
open Go.ChangeShapes Go.WideShapes Go.ChangeAt Go.RowKit Go.ChangeMaps
set_option maxRecDepth 100000

theorem cosCounts_own : ownKnob Tryd.prog.godebug = none := by kernel_rfl

theorem cosCounts_lifted (os : Os) (started : os.Started) (H : Type) (enc : TypeId × Value → H) :
    ReturnsInHanded {} Tryd.checked os 11 .any (fun w args => (Rows.cosCountsSpec.pre enc Tryd.prog Tryd.f11 Rows.cosCountsRow.domain false w args ∧ laidMetH Tryd.prog Rows.cosCountsRow.laid w) ∧ sizedMet enc Tryd.prog Tryd.f11 (OpenSpec.ofChange Rows.cosCountsSpec) false w args)
      (Rows.cosCountsSpec.post enc Tryd.prog Tryd.f11 false true false false) := by
  refine returnsInHanded_of_change_and (C := Tryd.checked) (X := fun w _ => laidMetH Tryd.prog Rows.cosCountsRow.laid w) (fun _ _ _ hh h => h.of_heap hh) cosCounts_own started (by kernel_rfl) Tryd.func11
    (ChangeSpec.witness_shaped (enc := enc) (C := Tryd.checked) (os := os) (X := fun w _ => laidMetH Tryd.prog Rows.cosCountsRow.laid w) false (World.laidAll Tryd.prog os Rows.cosCountsRow.laid) #[.int .i64 0, .int .i64 0] 8 (World.laidAll_os _ _ _)
      (World.shaped_of_ZipB (by kernel_rfl) (by kernel_rfl)) (by kernel_rfl) (by kernel_rfl) (by kernel_rfl)
      (by rw [MakeChecks.laidMetH_plain _ _ _ (by kernel_rfl)]; exact laidMet_laidAll _ (by kernel_rfl) (by kernel_rfl))) ?_
  intro W base args ds gs before hval0 hW hc _ hL _
  have hval : ∀ (j : Nat) t v, Tryd.f11.params[j]? = some t → args[j]? = some v → Value.okWide Tryd.prog W .any base t v := hval0
  refine Ink.law_post hW rfl (by kernel_rfl) Tryd.underlying4 (fun ds' hl => ?_) (by kernel_rfl) (by kernel_rfl) ?_
  · rw [Tryd.params11] at hl
    match ds', hl with
    | [d0, d1], _ => rfl
  · obtain ⟨p, q, hA0, hV, rfl, _, _⟩ := hW
    have hA : DataW.TrodAll enc Tryd.prog W 0 (fun _ => true) true Tryd.f11.params.toList args.toList ds p := hA0
    rw [Tryd.params11] at hA hval
    obtain ⟨v0, vs0, d0, ds0, p0, q0, hargs, rfl, rfl, h0, r0⟩ := trodAll_cons hA
    obtain ⟨v1, vs1, d1, ds1, p1, q1, rfl, rfl, rfl, h1, r1⟩ := trodAll_cons r0
    obtain ⟨rfl, rfl, rfl⟩ := trodAll_nil r1
    obtain rfl : args = #[v0, v1] := by cases args; simp_all
    obtain ⟨a0, rfl, _, _, w0⟩ := open_int Tryd.underlying3 (hval 0 3 v0 rfl rfl) h0
    have w0 := Ink.wf_ik w0
    obtain ⟨a1, rfl, _, _, w1⟩ := open_int Tryd.underlying3 (hval 1 3 v1 rfl rfl) h1
    have w1 := Ink.wf_ik w1
    refine Ink.PCalls.calls (args := [.int .i64 a0, .int .i64 a1]) (vs := [.int .i64 a0, .int .i64 a1]) Tryd.func11 rfl (by kernel_rfl) (Ink.D.cosCounts rfl _ _) ⟨rfl, ?_⟩
    intro j x v hx hv
    match j, hx, hv with
    | 0, hx, hv => cases hx; cases hv; exact .int _ _ w0
    | 1, hx, hv => cases hx; cases hv; exact .int _ _ w1

theorem cosCounts_said : Rows.CosCountsSaid :=
  OpenClaim.holds_of_wide 11 Tryd.f11 rfl rfl rfl rfl rfl rfl rfl ⟨rfl, rfl, rfl, rfl, rfl⟩ rfl rfl rfl rfl rfl (by kernel_rfl) Tryd.func11 (by kernel_rfl)
    (of_decide_eq_true (by kernel_rfl)) (by unfold Func.isWrapper; first | (rw [if_pos (by decide +kernel)]; kernel_rfl) | (rw [if_neg (by decide +kernel)]; exact ⟨rfl, rfl⟩))
    (fun os started H enc _ => cosCounts_lifted os started H enc)

theorem cosCounts_holds : Rows.CosCountsCardSaid :=
  Claim7.holds_tied_plain_at .later [] _ _ _ _ cosCounts_said (fun _ h => by cases h) (by kernel_rfl) (fun _ h => by cases h) cosCounts_row_tie rfl ⟨rfl, rfl⟩ (by kernel_rfl) rfl
    (fun f fn hf hfn => by
      obtain rfl : f = 11 := Option.some.inj ((show Tryd.prog.funcNamed "inkstand/inkstandlaw04.CosCounts" = some 11 by kernel_rfl).symm.trans hf) |>.symm
      obtain rfl : fn = Tryd.f11 := (Option.some.inj (Tryd.func11.symm.trans hfn)).symm
      exact ⟨by kernel_rfl, fun j t ht => by
        rw [Tryd.params11] at ht
        have hm : t ∈ [3, 3] := by simpa using Array.mem_of_getElem? ht
        have hall : ([3, 3].all fun u => !Tryd.prog.wantsStandIn u) = true := by kernel_rfl
        exact (show Tryd.prog.wantsStandIn t = false by simpa using List.all_eq_true.1 hall t hm)⟩)
    (by kernel_rfl)
#print axioms cosCounts_holds
end Go.Proofs.YtipdgghfkdlfmaaDoor
