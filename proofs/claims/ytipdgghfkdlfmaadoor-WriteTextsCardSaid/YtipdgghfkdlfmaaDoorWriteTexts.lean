/- The law WriteTexts: what write.Object writes of a Str and of a Name has printed signs alone, whatever the text. -/
import Derived.Test.YtipdgghfkdlfmaaDoorPWrB
import Derived.Test.YtipdgghfkdlfmaaDoorInkC
import Derived.Test.YtipdgghfkdlfmaaDoorCards
import Derived.Test.YtipdgghfkdlfmaaDoorTie
import Derived.ProofKit
import Derived.OpenShut
import Derived.LaidMore
import Derived.Lay
import Derived.SevenTiedAt
import Derived.Stop.Joined
import Derived.ChangeMaps5
import Derived.Stop.LaidErr
import Derived.Test.YtipdgghfkdlfmaaDoorInkE
set_option linter.all false
namespace Go.Proofs.YtipdgghfkdlfmaaDoor
open Go.ChangeShapes Go.WideShapes Go.ChangeAt Go.RowKit Go.ChangeMaps
set_option maxRecDepth 100000

theorem writeTexts_own : ownKnob Tryd.prog.godebug = none := by kernel_rfl

theorem writeTexts_tab {W : World} (h : laidMetH Tryd.prog Rows.writeTextsRow.laid W) : Lib.TabIs Tryd.prog W "internal/strconv.uint64pow10" .u64 Lib.pow10Tab := by
  rw [MakeChecks.laidMetH_plain _ _ _ (by kernel_rfl)] at h
  exact Lib.tabIs_of_head (n := 20) (g := (Tryd.prog.globalNamed "internal/strconv.uint64pow10").getD 0) (t := 178) (e := 162) (by kernel_rfl) (by kernel_rfl) (by kernel_rfl) (by kernel_rfl) (by kernel_rfl) (by kernel_rfl) h.tail.tail

theorem writeTexts_lifted (os : Os) (started : os.Started) (H : Type) (enc : TypeId × Value → H) :
    ReturnsInHanded {} Tryd.checked os 13 .any (fun w args => (Rows.writeTextsSpec.pre enc Tryd.prog Tryd.f13 Rows.writeTextsRow.domain false w args ∧ laidMetH Tryd.prog Rows.writeTextsRow.laid w) ∧ sizedMet enc Tryd.prog Tryd.f13 (OpenSpec.ofChange Rows.writeTextsSpec) false w args)
      (Rows.writeTextsSpec.post enc Tryd.prog Tryd.f13 false true false false) := by
  refine returnsInHanded_of_change_and (C := Tryd.checked) (X := fun w _ => laidMetH Tryd.prog Rows.writeTextsRow.laid w) (fun _ _ _ hh h => h.of_heap hh) writeTexts_own started (by kernel_rfl) Tryd.func13
    (ChangeSpec.witness_shaped (enc := enc) (C := Tryd.checked) (os := os) (X := fun w _ => laidMetH Tryd.prog Rows.writeTextsRow.laid w) false (World.laidAll Tryd.prog os Rows.writeTextsRow.laid) #[.string ⟨#[]⟩] 8 (World.laidAll_os _ _ _)
      (World.shaped_of_ZipB (by kernel_rfl) (by kernel_rfl)) (by kernel_rfl) (by kernel_rfl) (by kernel_rfl)
      (by rw [MakeChecks.laidMetH_plain _ _ _ (by kernel_rfl)]; exact laidMet_laidAll _ (by kernel_rfl) (by kernel_rfl))) ?_
  intro W base args ds gs before hval0 hW hc _ hL _
  have hval : ∀ (j : Nat) t v, Tryd.f13.params[j]? = some t → args[j]? = some v → Value.okWide Tryd.prog W .any base t v := hval0
  refine Ink.law_post hW rfl (by kernel_rfl) Tryd.underlying4 (fun ds' hl => ?_) (by kernel_rfl) (by kernel_rfl) ?_
  · rw [Tryd.params13] at hl
    match ds', hl with
    | [d0], _ => rfl
  · obtain ⟨p, q, hA0, hV, rfl, _, _⟩ := hW
    have hA : DataW.TrodAll enc Tryd.prog W 0 (fun _ => true) true Tryd.f13.params.toList args.toList ds p := hA0
    rw [Tryd.params13] at hA hval
    obtain ⟨v0, vs0, d0, ds0, p0, q0, hargs, rfl, rfl, h0, r0⟩ := trodAll_cons hA
    obtain ⟨rfl, rfl, rfl⟩ := trodAll_nil r0
    obtain rfl : args = #[v0] := by cases args; simp_all
    obtain ⟨a0, rfl, _, _, w0⟩ := open_string Tryd.underlying9 (hval 0 9 v0 rfl rfl) h0
    have w0 : a0.data.toList.length ≤ 9223372036854775807 := w0
    have hT : Ink.D.TabE (Ink.envW Tryd.prog W) := fun c hg => Ink.tabW (writeTexts_tab hL) hg
    refine Ink.PCalls.callsW (args := [.str a0.data.toList]) (vs := [.string a0]) Tryd.func13 rfl (by kernel_rfl) (Ink.D.writeTexts (E := Ink.envW Tryd.prog W) rfl hT _ w0) ⟨rfl, ?_⟩
    intro j x v hx hv
    match j, hx, hv with
    | 0, hx, hv => cases hx; cases hv; exact .str _ _ rfl

theorem writeTexts_said : Rows.WriteTextsSaid :=
  OpenClaim.holds_of_wide 13 Tryd.f13 rfl rfl rfl rfl rfl rfl rfl ⟨rfl, rfl, rfl, rfl, rfl⟩ rfl rfl rfl rfl rfl (by kernel_rfl) Tryd.func13 (by kernel_rfl)
    (of_decide_eq_true (by kernel_rfl)) (by unfold Func.isWrapper; first | (rw [if_pos (by decide +kernel)]; kernel_rfl) | (rw [if_neg (by decide +kernel)]; exact ⟨rfl, rfl⟩))
    (fun os started H enc _ => writeTexts_lifted os started H enc)

theorem writeTexts_holds : Rows.WriteTextsCardSaid :=
  Claim7.holds_tied_plain_at .later [] _ _ _ _ writeTexts_said (fun _ h => by cases h) (by kernel_rfl) (fun _ h => by cases h) writeTexts_row_tie rfl ⟨rfl, rfl⟩ (by kernel_rfl) rfl
    (fun f fn hf hfn => by
      obtain rfl : f = 13 := Option.some.inj ((show Tryd.prog.funcNamed "inkstand/inkstandlaw05.WriteTexts" = some 13 by kernel_rfl).symm.trans hf) |>.symm
      obtain rfl : fn = Tryd.f13 := (Option.some.inj (Tryd.func13.symm.trans hfn)).symm
      exact ⟨by kernel_rfl, fun j t ht => by
        rw [Tryd.params13] at ht
        have hm : t ∈ [9] := by simpa using Array.mem_of_getElem? ht
        have hall : ([9].all fun u => !Tryd.prog.wantsStandIn u) = true := by kernel_rfl
        exact (show Tryd.prog.wantsStandIn t = false by simpa using List.all_eq_true.1 hall t hm)⟩)
    (by kernel_rfl)
#print axioms writeTexts_holds
end Go.Proofs.YtipdgghfkdlfmaaDoor
