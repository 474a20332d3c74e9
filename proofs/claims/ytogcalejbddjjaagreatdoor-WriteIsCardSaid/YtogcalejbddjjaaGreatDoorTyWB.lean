import Derived.Test.YtogcalejbddjjaaGreatDoorTyWA
import Derived.Test.YtogcalejbddjjaaGreatDoorTyB2
import Derived.Test.YtogcalejbddjjaaGreatDoorPWrE
set_option linter.all false
namespace Ink.D
open Go Go.Proofs
set_option maxRecDepth 100000
variable {E : Env} (hE : E.P = Tryz.prog)

/-! ref05.own -/
def ownL (k n f : Int) (nl : Nat) (d : List (List UInt8 × Ob)) (deep : Int) : Int :=
  if shapeF k n f d deep ≠ 0 then shapeF k n f d deep else sizeL k n f nl d.length deep

theorem bits1 {n : Int} (hn : inI64 n) : bits .andNot .i64 n 1 = 0 ↔ n = 0 ∨ n = 1 := by
  constructor
  · exact andNot1 hn
  · rintro (rfl | rfl) <;> decide +kernel
theorem own_out {k n f : Int} {nl : Nat} {d : List (List UInt8 × Ob)} {deep : Int} (h : k < 0 ∨ 8 < k) : ownL k n f nl d deep = 1 := by
  have : shapeF k n f d deep = 1 := by
    unfold shapeF shapeL
    rw [if_neg (by omega), if_neg (by omega), if_neg (by omega), if_neg (by omega), if_neg (by omega), if_neg (by omega)]
  unfold ownL
  rw [this]; rfl
theorem own_0 {k n f : Int} {nl : Nat} {d : List (List UInt8 × Ob)} {deep : Int} (h : k = 0 ∨ k = 3 ∨ k = 4) : ownL k n f nl d deep = 0 := by
  unfold ownL shapeF shapeL sizeL
  rcases h with rfl | rfl | rfl <;> simp
theorem own_1 {n f : Int} {nl : Nat} {d : List (List UInt8 × Ob)} {deep : Int} (hn : inI64 n) : ownL 1 n f nl d deep = if n = 0 ∨ n = 1 then 0 else 1 := by
  unfold ownL shapeF shapeL sizeL
  simp only [bits1 hn]
  by_cases h : n = 0 ∨ n = 1 <;> simp [h]
theorem own_2 {n f : Int} {nl : Nat} {d : List (List UInt8 × Ob)} {deep : Int} (hn : inI64 n) : ownL 2 n f nl d deep = if ¬ (n = 0 ∨ n = 1) ∨ (n = 1 ∧ f.tmod 1000 ≠ 0) then 1 else if mayF f = true then 0 else 2 := by
  unfold ownL shapeF shapeL sizeL
  simp only [bits1 hn]
  by_cases h : n = 0 ∨ n = 1
  · by_cases h2 : n = 1 ∧ f.tmod 1000 ≠ 0
    · simp [h, h2]
    · by_cases h3 : mayF f = true <;> simp [h, h2, h3]
  · simp [h]
theorem own_7 {n f : Int} {nl : Nat} {d : List (List UInt8 × Ob)} {deep : Int} : ownL 7 n f nl d deep = if n < 0 ∨ f < 0 ∨ f.tmod 1000 ≠ 0 then 1 else if mayF f = false ∨ n > 2147483 then 2 else 0 := by
  unfold ownL shapeF shapeL sizeL
  by_cases h : n < 0 ∨ f < 0 ∨ f.tmod 1000 ≠ 0
  · simp [h]
  · by_cases h2 : mayF f = false ∨ n > 2147483 <;> simp [h, h2]
theorem own_5 {n f : Int} {nl : Nat} {d : List (List UInt8 × Ob)} {deep : Int} : ownL 5 n f nl d deep = if nl > 1024 then 6 else if deep ≥ 64 then 5 else 0 := by
  unfold ownL shapeF shapeL sizeL
  simp
theorem own_6 {n f : Int} {nl : Nat} {d : List (List UInt8 × Ob)} {deep : Int} : ownL 6 n f nl d deep = if entL [] d ≠ 0 then entL [] d else if d.length > 1024 then 6 else if deep ≥ 64 then 5 else 0 := by
  unfold ownL shapeF sizeL
  simp
theorem own_8 {n f : Int} {nl : Nat} {d : List (List UInt8 × Ob)} {deep : Int} : ownL 8 n f nl d deep = if deep > 0 then 1 else if entL [] d ≠ 0 then entL [] d else if d.length > 1024 then 6 else if deep ≥ 64 then 5 else 0 := by
  unfold ownL shapeF sizeL
  by_cases h : deep > 0 <;> simp [h]

include hE
set_option maxHeartbeats 8000000 in
theorem ownA {k n f : Int} {s : List UInt8} {l_ : List Ob} {d : List (List UInt8 × Ob)} {deep : Int} (hl : l_.length < big) (hd : d.length < big) (hk6 : k ≠ 6) (hk8 : k ≠ 8) :
    PCalls E 114 [.agg (obC (.mk k n f s l_ d)), .int .i64 deep] (· = .int .i64 (ownL k n f l_.length d deep)) := by
  refine PCalls.have (φ := inI64 n) (fun c vs h => h.ikA 0 1 rfl rfl) fun hn => ?_
  have hM := may109 hE f
  have hll := obL_len l_
  have hdl := obD_length d
  have hL : ∀ n0, hbLL n0 (obL l_) = true := fun n0 => obL_hb l_
  have hD : ∀ n0, hbLL n0 (obD d) = true := fun n0 => obD_hb d
  unfold big at hl hd
  refine p114 hE (fun l => ?_) (by simp [hbL, hb, obC_hb])
  unfold obC
  generalize hmf : mayF f = mf at *
  by_cases ko : k < 0 ∨ 8 < k
  · rw [own_out ko]
    conv => whnf
    repeat' (first
      | (refine And.intro W1 ?_; conv => whnf)
      | (refine brD (fun _ => ?_) (fun _ => ?_) <;> first | (exfalso; omega) | (conv => whnf))
      | (refine brB (fun _ => ?_) (fun _ => ?_) <;> conv => whnf))
    all_goals exact RetG.drop rfl rfl rfl ⟨rfl, congrArg (AV.int .i64) (by (repeat' split) <;> first | rfl | omega | (simp_all; done) | (exfalso; simp_all; omega)), rfl⟩
  by_cases k0 : k = 0 ∨ k = 3 ∨ k = 4
  · rw [own_0 k0]
    conv => whnf
    repeat' (first
      | (refine And.intro W1 ?_; conv => whnf)
      | (refine brD (fun _ => ?_) (fun _ => ?_) <;> first | (exfalso; omega) | (conv => whnf))
      | (refine brB (fun _ => ?_) (fun _ => ?_) <;> conv => whnf))
    all_goals exact RetG.drop rfl rfl rfl ⟨rfl, congrArg (AV.int .i64) (by (repeat' split) <;> first | rfl | omega | (simp_all; done) | (exfalso; simp_all; omega)), rfl⟩
  by_cases k1 : k = 1
  · subst k1
    rw [own_1 hn]
    conv => whnf
    repeat' (first
      | (refine And.intro W1 ?_; conv => whnf)
      | (refine brD (fun _ => ?_) (fun _ => ?_) <;> first | (exfalso; omega) | (conv => whnf))
      | (refine brB (fun _ => ?_) (fun _ => ?_) <;> conv => whnf))
    all_goals exact RetG.drop rfl rfl rfl ⟨rfl, congrArg (AV.int .i64) (by (repeat' split) <;> first | rfl | omega | (simp_all; done) | (exfalso; simp_all; omega)), rfl⟩
  by_cases k2 : k = 2
  · subst k2
    rw [own_2 hn, hmf]
    conv => whnf
    repeat' (first
      | (refine And.intro W1 ?_; conv => whnf)
      | (refine brD (fun _ => ?_) (fun _ => ?_) <;> first | (exfalso; omega) | (conv => whnf))
      | (refine brB (fun _ => ?_) (fun _ => ?_) <;> conv => whnf)
      | ((first | refine CallG.e hM ?_ | refine CallD.e hM ?_ | refine CallQ.e hM ?_ | refine CallP.e hM ?_); conv => whnf))
    all_goals exact RetG.drop rfl rfl rfl ⟨rfl, congrArg (AV.int .i64) (by (repeat' split) <;> first | rfl | omega | (simp_all; done) | (exfalso; simp_all; omega)), rfl⟩
  by_cases k5 : k = 5
  · subst k5
    rw [own_5]
    conv => whnf
    repeat' (first
      | (refine And.intro W1 ?_; conv => whnf)
      | (refine brD (fun _ => ?_) (fun _ => ?_) <;> first | (exfalso; omega) | (conv => whnf))
      | (refine brB (fun _ => ?_) (fun _ => ?_) <;> conv => whnf))
    all_goals exact RetG.drop rfl rfl rfl ⟨rfl, congrArg (AV.int .i64) (by (repeat' split) <;> first | rfl | omega | (simp_all; done) | (exfalso; simp_all; omega)), rfl⟩
  have k7 : k = 7 := by omega
  subst k7
  rw [own_7, hmf]
  conv => whnf
  repeat' (first
    | (refine And.intro W1 ?_; conv => whnf)
    | (refine brD (fun _ => ?_) (fun _ => ?_) <;> first | (exfalso; omega) | (conv => whnf))
    | (refine brB (fun _ => ?_) (fun _ => ?_) <;> conv => whnf)
    | ((first | refine CallG.e hM ?_ | refine CallD.e hM ?_ | refine CallQ.e hM ?_ | refine CallP.e hM ?_); conv => whnf))
  all_goals exact RetG.drop rfl rfl rfl ⟨rfl, congrArg (AV.int .i64) (by (repeat' split) <;> first | rfl | omega | (simp_all; done) | (exfalso; simp_all; omega)), rfl⟩
end Ink.D
