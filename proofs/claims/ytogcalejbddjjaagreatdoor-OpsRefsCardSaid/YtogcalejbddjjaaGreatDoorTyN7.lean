import Derived.Test.YtogcalejbddjjaaGreatDoorTyN5
import Derived.Test.YtogcalejbddjjaaGreatDoorPCosC
set_option linter.all false
namespace Ink.D
open Go Go.Proofs
set_option maxRecDepth 100000
set_option linter.unusedSimpArgs false
set_option linter.unusedVariables false
variable {E : Env} (hE : E.P = Tryz.prog)

/-! a Ref among operands -/
theorem below8 {P : Nat → Prop} (h0 : P 0) (h1 : P 1) (h2 : P 2) (h3 : P 3) (h4 : P 4) (h5 : P 5) (h6 : P 6) (h7 : P 7) : ∀ x : Nat, x < 8 → P x
  | 0, _ => h0 | 1, _ => h1 | 2, _ => h2 | 3, _ => h3 | 4, _ => h4 | 5, _ => h5 | 6, _ => h6 | 7, _ => h7
  | x + 8, h => by omega

abbrev oct0 : List UInt8 := [48, 49, 50, 51, 52, 53, 54, 55]
def dg (x : Nat) : List UInt8 := [UInt8.ofNat (48 + x)]
abbrev refT (x y : Nat) : List UInt8 := dg x ++ [32] ++ dg y ++ [32, 82]
abbrev numX (x : Nat) : Ob := .mk 2 1 (1000 * x) [] [] []
abbrev refsP (x y : Nat) : List OpL := [([82], [numX x, numX y]), ([120], [.mk 5 0 0 [] [.mk 7 x (1000 * y) [] [] []] []])]

theorem dg_cut : ∀ x : Nat, x < 8 → List.take (((x : Int) + 1).toNat - (x : Int).toNat) (List.drop (x : Int).toNat oct0) = dg x :=
  below8 rfl rfl rfl rfl rfl rfl rfl rfl

theorem refs_parse : ∀ x : Nat, x < 8 → ∀ y : Nat, y < 8 → parseO (refT x y ++ [32, 91] ++ refT x y ++ [93, 32, 120]) = (refsP x y, 0) := by
  refine below8 ?_ ?_ ?_ ?_ ?_ ?_ ?_ ?_ <;> refine below8 ?_ ?_ ?_ ?_ ?_ ?_ ?_ ?_ <;> kernel_rfl

theorem refs_E : ∀ x : Nat, x < 8 → ∀ y : Nat, y < 8 → writeE (refsP x y) = 1 := by
  refine below8 ?_ ?_ ?_ ?_ ?_ ?_ ?_ ?_ <;> refine below8 ?_ ?_ ?_ ?_ ?_ ?_ ?_ ?_ <;> decide +kernel
theorem refs_T : ∀ x : Nat, x < 8 → ∀ y : Nat, y < 8 → (writeT (refsP x y)).length < 1000 := by
  refine below8 ?_ ?_ ?_ ?_ ?_ ?_ ?_ ?_ <;> refine below8 ?_ ?_ ?_ ?_ ?_ ?_ ?_ ?_ <;> decide +kernel
theorem num_ok : ∀ x : Nat, x < 8 → okW (numX x) = true ∧ (txt (numX x)).length < 1000000000 := by
  refine below8 ?_ ?_ ?_ ?_ ?_ ?_ ?_ ?_ <;> decide +kernel
theorem ref_ok : ∀ x : Nat, x < 8 → ∀ y : Nat, y < 8 → okW (.mk 5 0 0 [] [.mk 7 x (1000 * y) [] [] []] []) = true ∧ (txt (.mk 5 0 0 [] [.mk 7 x (1000 * y) [] [] []] [])).length < 1000000000 := by
  refine below8 ?_ ?_ ?_ ?_ ?_ ?_ ?_ ?_ <;> refine below8 ?_ ?_ ?_ ?_ ?_ ?_ ?_ ?_ <;> decide +kernel

include hE
set_option maxHeartbeats 4000000 in
theorem opsRefs (hT : TabE E) (a b : Int) : PCalls E 12 [.int .i64 a, .int .i64 b] (· = .bool true) := by
  have hx : 0 ≤ bits .and .i64 a 7 ∧ bits .and .i64 a 7 ≤ 7 := and_low2 a 7 (by decide)
  have hy : 0 ≤ bits .and .i64 b 7 ∧ bits .and .i64 b 7 ≤ 7 := and_low2 b 7 (by decide)
  obtain ⟨x, hxx⟩ : ∃ x : Nat, bits .and .i64 a 7 = x := ⟨(bits .and .i64 a 7).toNat, by have := hx.1; omega⟩
  obtain ⟨y, hyy⟩ : ∃ y : Nat, bits .and .i64 b 7 = y := ⟨(bits .and .i64 b 7).toNat, by have := hy.1; omega⟩
  rw [hxx] at hx
  rw [hyy] at hy
  have hx8 : x < 8 := by omega
  have hy8 : y < 8 := by omega
  have hA := awake42 hE hT
  have hP := parse43 hE (refT x y ++ [32, 91] ++ refT x y ++ [93, 32, 120]) (by simp [dg])
  rw [refs_parse x hx8 y hy8] at hP
  have hW := write31 hE hT (refsP x y) (by simp [big]) (by
    intro p hp
    simp at hp
    rcases hp with rfl | rfl
    · refine ⟨by simp [big], by simp, fun o ho => ?_⟩
      simp at ho
      rcases ho with rfl | rfl
      · exact ⟨by simp [countO, countL, countD, big], fun _ => num_ok x hx8⟩
      · exact ⟨by simp [countO, countL, countD, big], fun _ => num_ok y hy8⟩
    · refine ⟨by simp [big], by simp, fun o ho => ?_⟩
      simp at ho
      subst ho
      exact ⟨by simp [countO, countL, countD, big], fun _ => ref_ok x hx8 y hy8⟩) (Nat.lt_trans (refs_T x hx8 y hy8) (by decide))
  rw [refs_E x hx8 y hy8, if_neg (by decide)] at hW
  have u1 : opLs (refsP x y) = [[.str [82], .imm 6 [[.int .i64 2, .int .i64 1, .int .i64 (1000 * x), .str [], .imm 6 [], .imm 7 []], [.int .i64 2, .int .i64 1, .int .i64 (1000 * y), .str [], .imm 6 [], .imm 7 []]]],
    [.str [120], .imm 6 [[.int .i64 5, .int .i64 0, .int .i64 0, .str [], .imm 6 [[.int .i64 7, .int .i64 x, .int .i64 (1000 * y), .str [], .imm 6 [], .imm 7 []]], .imm 7 []]]]] := rfl
  simp only at hP
  rw [u1] at hP hW
  unfold refT at hP
  have c1 := dg_cut x hx8
  have c2 := dg_cut y hy8
  have d1 : (dg x).length = 1 := rfl
  have d2 : (dg y).length = 1 := rfl
  generalize dg x = dx at *
  generalize dg y = dy at *
  refine p12 hE fun l => ?_
  conv => whnf
  repeat' (first
    | (rw [hxx]; conv => whnf)
    | (rw [hyy]; conv => whnf)
    | (rw [c1]; conv => whnf)
    | (rw [c2]; conv => whnf)
    | (refine And.intro ?_ ?_; (focus (first | omega | decide | (unfold inI64; omega) | (simp only [List.length_append, List.length_cons, List.length_nil] <;> omega) | (refine ⟨?_, ?_⟩ <;> omega) | (refine ⟨?_, ?_, ?_, ?_, ?_, ?_⟩ <;> first | rfl | trivial | decide | omega | (simp [bytesAV_length] <;> omega)) | (simp <;> omega) | (unfold inI64; simp only [List.length_append, List.length_cons, List.length_nil] <;> omega))); conv => whnf)
    | (refine brD (fun _ => ?_) (fun _ => ?_) <;> first | (exfalso; omega) | (conv => whnf))
    | (refine brB (fun _ => ?_) (fun _ => ?_) <;> conv => whnf)
    | ((first | refine CallG.e (hA) ?_ | refine CallD.e (hA) ?_ | refine CallQ.e (hA) ?_ | refine CallP.e (hA) ?_); conv => whnf)
    | ((first | refine CallG.e (hP) ?_ | refine CallD.e (hP) ?_ | refine CallQ.e (hP) ?_ | refine CallP.e (hP) ?_); conv => whnf)
    | ((first | refine CallG.e (hW) ?_ | refine CallD.e (hW) ?_ | refine CallQ.e (hW) ?_ | refine CallP.e (hW) ?_); conv => whnf))
  exact RetG.drop rfl rfl rfl ⟨rfl, rfl, rfl⟩
end Ink.D
