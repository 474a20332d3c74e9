/- CosSets: what was set in a dictionary under a name is got under it, what stands under another name is as it was, what is taken away is null, and to set once more changes nothing; for every two objects and every two names. The row lists two tables of unicode/utf8, tied by the card; no ring in the inputs. -/
import Derived.Test.YtipdgghfkdlfmaaGreatDoorPCosI
import Derived.Test.YtipdgghfkdlfmaaGreatDoorInkC
import Derived.Test.YtipdgghfkdlfmaaGreatDoorCards
import Derived.Test.YtipdgghfkdlfmaaGreatDoorTie
import Derived.ProofKit
import Derived.OpenShut
import Derived.LaidMore
import Derived.Lay
import Derived.SevenTiedAt
import Derived.Stop.Joined
import Derived.ChangeMaps5
set_option linter.all false
namespace Go.Proofs.YtipdgghfkdlfmaaGreatDoor
open Go.ChangeShapes Go.WideShapes Go.ChangeAt Go.RowKit Go.ChangeMaps
set_option maxRecDepth 100000

theorem cosSets_own : ownKnob Tryz.prog.godebug = none := by kernel_rfl

theorem cosSets_types : Ink.D.ObT Tryz.prog 3 22 9 23 24 26 34 where
  hI := by kernel_rfl
  hF := by kernel_rfl
  hS := by kernel_rfl
  hL := by kernel_rfl
  hD := by kernel_rfl
  hO := ⟨(match Tryz.prog.underlying 26 with | some (.struct fs) => fs | _ => #[]), by kernel_rfl, by kernel_rfl⟩
  hE := ⟨(match Tryz.prog.underlying 34 with | some (.struct fs) => fs | _ => #[]), by kernel_rfl, by kernel_rfl⟩
  cI := by kernel_rfl
  cF := by kernel_rfl
  cS := by kernel_rfl
  cL := by kernel_rfl
  cD := by kernel_rfl
  cO := by kernel_rfl
  cE := by kernel_rfl
  bO := of_decide_eq_true (by kernel_rfl)
  bE := of_decide_eq_true (by kernel_rfl)

theorem cosSets_lifted (os : Os) (started : os.Started) (H : Type) (enc : TypeId × Value → H) :
    ReturnsInHanded {} Tryz.checked os 3 .any (fun w args => (Rows.cosSetsSpec.pre enc Tryz.prog Tryz.f3 Rows.cosSetsRow.domain false w args ∧ laidMetH Tryz.prog Rows.cosSetsRow.laid w) ∧ sizedMet enc Tryz.prog Tryz.f3 (OpenSpec.ofChange Rows.cosSetsSpec) false w args)
      (Rows.cosSetsSpec.post enc Tryz.prog Tryz.f3 false true false false) := by
  refine returnsInHanded_of_change_and (C := Tryz.checked) (X := fun w _ => laidMetH Tryz.prog Rows.cosSetsRow.laid w) (fun _ _ _ hh h => h.of_heap hh) cosSets_own started (by kernel_rfl) Tryz.func3
    (ChangeSpec.witness_shaped (enc := enc) (C := Tryz.checked) (os := os) (X := fun w _ => laidMetH Tryz.prog Rows.cosSetsRow.laid w) false (World.laidAll Tryz.prog os Rows.cosSetsRow.laid) #[.agg #[.int .i64 0, .int .i64 0, .int .i64 0, .string ⟨#[]⟩, .slice none 0 0, .slice none 0 0], .string ⟨#[]⟩, .string ⟨#[]⟩, .agg #[.int .i64 0, .int .i64 0, .int .i64 0, .string ⟨#[]⟩, .slice none 0 0, .slice none 0 0]] 8 (World.laidAll_os _ _ _)
      (World.shaped_of_ZipB (by kernel_rfl) (by kernel_rfl)) (by kernel_rfl) (by kernel_rfl) (by kernel_rfl)
      (by rw [MakeChecks.laidMetH_plain _ _ _ (by kernel_rfl)]; exact laidMet_laidAll _ (by kernel_rfl) (by kernel_rfl))) ?_
  intro W base args ds gs before hval0 hW hc hS hL _
  have hval : ∀ (j : Nat) t v, Tryz.f3.params[j]? = some t → args[j]? = some v → Value.okWide Tryz.prog W .any base t v := hval0
  refine Ink.law_post hW rfl (by kernel_rfl) Tryz.underlying4 (fun ds' hl => ?_) (by kernel_rfl) (by kernel_rfl) ?_
  · rw [Tryz.params3] at hl
    match ds', hl with
    | [d0, d1, d2, d3], _ => rfl
  · obtain ⟨p, q, hA0, hV, rfl, _, _⟩ := hW
    have hA : DataW.TrodAll enc Tryz.prog W 0 (fun _ => true) true Tryz.f3.params.toList args.toList ds p := hA0
    rw [Tryz.params3] at hA hval
    obtain ⟨v0, vs0, d0, ds0, p0, q0, hargs, rfl, rfl, h0, r0⟩ := trodAll_cons hA
    obtain ⟨v1, vs1, d1, ds1, p1, q1, rfl, rfl, rfl, h1, r1⟩ := trodAll_cons r0
    obtain ⟨v2, vs2, d2, ds2, p2, q2, rfl, rfl, rfl, h2, r2⟩ := trodAll_cons r1
    obtain ⟨v3, vs3, d3, ds3, p3, q3, rfl, rfl, rfl, h3, r3⟩ := trodAll_cons r2
    obtain ⟨rfl, rfl, rfl⟩ := trodAll_nil r3
    obtain rfl : args = #[v0, v1, v2, v3] := by cases args; simp_all
    have hV' : DataW.TrodVars enc Tryz.prog W (fun _ => true) [] gs q := hV
    obtain ⟨rfl, rfl⟩ := trodVars_none hV'
    rw [Tryz.params3] at hS
    have hS1 : (DataW.weightsEach Tryz.prog [26, 9, 9, 26] [d0, d1, d2, d3]).all (· ≤ reachBytes) = true := hS
    have hwt : ∀ n ∈ DataW.weightsEach Tryz.prog [26, 9, 9, 26] [d0, d1, d2, d3], n ≤ 140737488351232 := fun n hn => Nat.le_trans (of_decide_eq_true (List.all_eq_true.mp hS1 n hn)) (by decide)
    obtain ⟨a0, x0, w0⟩ := Ink.D.open_obj cosSets_types h0 (fun n hn => hwt n (Ink.D.weightsEach_mem (i := 0) hn rfl rfl))
    obtain ⟨a1, rfl, e1, _, w1⟩ := open_string Tryz.underlying9 (hval 1 9 v1 rfl rfl) h1
    have w1 : a1.data.toList.length ≤ 9223372036854775807 := w1
    have u1 : a1.data.toList.length ≤ 140737488351232 := hwt _ (Ink.D.weightsEach_mem (t := 9) (d := d1) (i := 1) (by rw [e1]; simp [DataW.weights]) rfl rfl)
    obtain ⟨a2, rfl, e2, _, w2⟩ := open_string Tryz.underlying9 (hval 2 9 v2 rfl rfl) h2
    have w2 : a2.data.toList.length ≤ 9223372036854775807 := w2
    have u2 : a2.data.toList.length ≤ 140737488351232 := hwt _ (Ink.D.weightsEach_mem (t := 9) (d := d2) (i := 2) (by rw [e2]; simp [DataW.weights]) rfl rfl)
    obtain ⟨a3, x3, w3⟩ := Ink.D.open_obj cosSets_types h3 (fun n hn => hwt n (Ink.D.weightsEach_mem (i := 3) hn rfl rfl))
    refine Ink.PCalls.calls (args := [.agg (Ink.D.obC a0), .str a1.data.toList, .str a2.data.toList, .agg (Ink.D.obC a3)]) (vs := [v0, .string a1, .string a2, v3]) Tryz.func3 rfl (by kernel_rfl) (Ink.D.cosSets rfl a0 a3 w0 w3 _ _ u1 u2) ⟨rfl, ?_⟩
    intro j x v hx hv
    match j, hx, hv with
    | 0, hx, hv => cases hx; cases hv; exact x0
    | 1, hx, hv => cases hx; cases hv; exact .str _ _ rfl
    | 2, hx, hv => cases hx; cases hv; exact .str _ _ rfl
    | 3, hx, hv => cases hx; cases hv; exact x3

theorem cosSets_said : Rows.CosSetsSaid :=
  OpenClaim.holds_of_wide 3 Tryz.f3 rfl rfl rfl rfl rfl rfl rfl ⟨rfl, rfl, rfl, rfl, rfl⟩ rfl rfl rfl rfl rfl (by kernel_rfl) Tryz.func3 (by kernel_rfl)
    (of_decide_eq_true (by kernel_rfl)) (by unfold Func.isWrapper; first | (rw [if_pos (by decide +kernel)]; kernel_rfl) | (rw [if_neg (by decide +kernel)]; exact ⟨rfl, rfl⟩))
    (fun os started H enc _ => cosSets_lifted os started H enc)

theorem cosSets_holds : Rows.CosSetsCardSaid :=
  Claim7.holds_tied_plain_at .later [] _ _ _ _ cosSets_said (fun _ h => by cases h) (by kernel_rfl) (fun _ h => by cases h) cosSets_row_tie rfl ⟨rfl, rfl⟩ (by kernel_rfl) rfl
    (fun f fn hf hfn => by
      obtain rfl : f = 3 := Option.some.inj ((show Tryz.prog.funcNamed "inkstand/inkstandlaw04.CosSets" = some 3 by kernel_rfl).symm.trans hf) |>.symm
      obtain rfl : fn = Tryz.f3 := (Option.some.inj (Tryz.func3.symm.trans hfn)).symm
      exact ⟨by kernel_rfl, fun j t ht => by
        rw [Tryz.params3] at ht
        have hm : t ∈ [26, 9, 9, 26] := by simpa using Array.mem_of_getElem? ht
        have hall : ([26, 9, 9, 26].all fun u => !Tryz.prog.wantsStandIn u) = true := by kernel_rfl
        exact (show Tryz.prog.wantsStandIn t = false by simpa using List.all_eq_true.1 hall t hm)⟩)
    (by kernel_rfl)
#print axioms cosSets_holds
end Go.Proofs.YtipdgghfkdlfmaaGreatDoor
