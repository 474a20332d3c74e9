import Derived.Test.YtogcalejbddjjaaGreatDoorTyN5
import Derived.Test.YtogcalejbddjjaaGreatDoorPCosC
set_option linter.all false
namespace Ink.D
open Go Go.Proofs
set_option maxRecDepth 100000
set_option linter.unusedSimpArgs false
set_option linter.unusedVariables false
variable {E : Env} (hE : E.P = Tryz.prog)

/-! so many operands -/
def onesP (k : Nat) : List UInt8 := (List.replicate k [49, 32]).flatten
theorem onesP_succ (k : Nat) : onesP k ++ [49, 32] = onesP (k + 1) := by
  unfold onesP; rw [List.replicate_succ', List.flatten_append]; rfl
theorem onesP_len (k : Nat) : (onesP k).length = 2 * k := by
  induction k with
  | zero => rfl
  | succ k ih => rw [← onesP_succ, List.length_append, ih]; simp; omega
theorem onesP_T (k : Nat) : onesP k ++ [120] = onesT k := by
  induction k with
  | zero => rfl
  | succ k ih => rw [onesT, ← ih]; simp [onesP, List.replicate_succ]
abbrev onesA (k : Nat) : List Ob := List.replicate k one1
theorem onesA_text (k : Nat) : argsT (onesA k) = onesP k := by
  have h : resT one1 = [49] := by decide +kernel
  induction k with
  | zero => rfl
  | succ k ih =>
    have e : argsT (onesA (k + 1)) = (resT one1 ++ [32]) ++ argsT (onesA k) := by simp [argsT, onesA, List.replicate_succ]
    rw [e, ih, h]; simp [onesP, List.replicate_succ]
theorem onesA_err (k : Nat) : argsE (onesA k) = 0 := by
  have h1 : refsO one1 = false := by decide +kernel
  have h2 : errF one1 = 0 := by decide +kernel
  induction k with
  | zero => rfl
  | succ k ih => rw [onesA, List.replicate_succ, argsE, h1, if_neg (by simp), h2, if_neg (by simp)]; exact ih
theorem ones_E (k : Nat) : writeE [([120], onesA k)] = if k ≤ 64 then 0 else 6 := by
  have h : putE ([120], onesA k) = if k ≤ 64 then 0 else 6 := by
    have hn : namedB [120] = true := by decide +kernel
    unfold putE
    simp only [hn]
    rw [if_neg (by simp), onesA_err]
    simp only [List.length_replicate]
    by_cases h : k ≤ 64
    · rw [if_neg (by omega), if_pos h]
    · rw [if_pos (by omega), if_neg h]
  unfold writeE opsE opsE
  rw [if_neg (by simp), h]
  by_cases h : k ≤ 64
  · rw [if_pos h]; simp
  · rw [if_neg h]; simp
theorem ones_T (k : Nat) : writeT [([120], onesA k)] = onesP k ++ [120, 10] := by
  simp [writeT, opT, onesA_text]

/-- an object is laid behind the others -/
theorem gcOne {H H' : List Blk} {sel : List (Option Nat)} (A : List Ob) (raw : List AV) (o : Ob) (hr : GcL H H' sel raw (obC o)) :
    GcB H H' sel (.cells 26 (((cellsL A).drop 0).take (A.length * 6) ++ raw)) (.cells 26 (cellsL (A ++ [o]))) := by
  have e : ((cellsL A).drop 0).take (A.length * 6) = cellsL A := by rw [List.drop_zero, take_all (cellsL_length A)]
  have e2 : cellsL [o] = obC o := by simp [cellsL, obL_map]
  obtain ⟨h1, h2⟩ := hr.spec
  rw [e, cellsL_append, e2]
  refine .cells 26 _ _ (by rw [List.length_append, List.length_append, h1]; omega) ?_ (fun j x y hx hy => ?_)
  · intro x hx
    rcases List.mem_append.mp hx with hx | hx
    · obtain ⟨y, hy, hx⟩ := List.mem_flatten.mp hx
      rw [obL_map] at hy
      obtain ⟨o, _, rfl⟩ := List.mem_map.mp hy
      exact obC_sc o x hx
    · exact obC_sc o x hx
  · by_cases hj : j < (cellsL A).length
    · rw [List.getElem?_append_left hj] at hx hy
      rw [hx] at hy
      cases hy
      exact .same _ (hbL_iff.mp (cellsL_hb 0 A) x (List.mem_of_getElem? hx))
    · rw [List.getElem?_append_right (by omega)] at hx hy
      exact h2 _ x y hx hy

include hE
set_option maxHeartbeats 4000000 in
theorem opsCounts (hT : TabE E) (n : Int) : PCalls E 13 [.int .i64 n] (· = .bool true) := by
  have hk : 0 ≤ bits .and .i64 n 127 ∧ bits .and .i64 n 127 ≤ 127 := and_low2 n 127 (by decide)
  obtain ⟨kk, hkk⟩ : ∃ kk : Nat, bits .and .i64 n 127 = kk := ⟨(bits .and .i64 n 127).toNat, by have := hk.1; omega⟩
  rw [hkk] at hk
  have hA := awake42 hE hT
  have hP := parse43 hE (onesP kk ++ [120]) (by rw [List.length_append, onesP_len]; simp; omega)
  rw [onesP_T, parse_ones kk (by omega)] at hP
  rw [← onesP_T] at hP
  have hW := write31 hE hT [([120], onesA kk)] (by simp [big]) (by
    intro p hp
    simp at hp
    subst hp
    refine ⟨by simp [big]; omega, by simp, fun o ho => ?_⟩
    obtain rfl : o = one1 := (List.mem_replicate.mp ho).2
    exact ⟨by decide, fun _ => ⟨by decide +kernel, by decide +kernel⟩⟩) (by rw [ones_T, List.length_append, onesP_len]; simp; omega)
  rw [ones_E, ones_T] at hW
  have hlP := onesP_len kk
  refine p13 hE fun l => ?_
  conv => whnf
  repeat' (first
    | (rw [hkk]; conv => whnf)
    | (refine And.intro ?_ ?_; (focus (first | omega | decide | (unfold inI64; omega) | (simp only [List.length_append, List.length_cons, List.length_nil] <;> omega) | (refine ⟨?_, ?_⟩ <;> omega) | (refine ⟨?_, ?_, ?_, ?_, ?_, ?_⟩ <;> first | rfl | trivial | decide | omega | (simp [bytesAV_length] <;> omega)) | (simp <;> omega) | (unfold inI64; simp only [List.length_append, List.length_cons, List.length_nil] <;> omega))); conv => whnf)
    | (refine brD (fun _ => ?_) (fun _ => ?_) <;> first | (exfalso; omega) | (conv => whnf))
    | (refine brB (fun _ => ?_) (fun _ => ?_) <;> conv => whnf)
    | ((first | refine CallG.e (hA) ?_ | refine CallD.e (hA) ?_ | refine CallQ.e (hA) ?_ | refine CallP.e (hA) ?_); conv => whnf))
  refine LoopG.w (fun x : Nat => x ≤ kk) 81 (fun x => [(3, .bool true), (4, .int .i64 kk), (5, .str (onesP x)), (6, .ptr 1 0 0), (7, .int .i64 x)]) (fun x => [⟨0, true, .frame l⟩, ⟨0, true, .cells 47 [.str [120], .own 2 0 0 x 6]⟩, ⟨0, true, .cells 26 (cellsL (onesA x))⟩]) (fun x => kk - x) 0 (by omega)
    (Wk.gc [some 0, some 1, none] rfl rfl rfl ⟨⟨_, _, rfl, rfl, .same _ rfl⟩, ⟨_, _, rfl, rfl, .l (by simp [sc]) ⟨.same _ rfl, .nilOwn 2 0 6 26 rfl rfl, trivial⟩⟩, ⟨0, 26, rfl⟩, trivial⟩
      ⟨⟨_, rfl, .same _ rfl⟩, ⟨_, rfl, .same _ rfl⟩, ⟨_, rfl, .same _ rfl⟩, ⟨_, rfl, .ptr 1 1 0 0 0 _ _ rfl rfl rfl⟩, ⟨_, rfl, .same _ rfl⟩, trivial⟩) ?_
  intro x h1
  by_cases hx : x < kk
  · have hl := onesP_len x
    have hcl : 0 + x * 6 ≤ (cellsL (onesA x)).length := by rw [cellsL_length]; simp
    have hcap : (x + 1) * 88 ≤ 70368744177664 := by omega
    conv => whnf
    repeat' (first
      | (refine And.intro ?_ ?_; (focus (first | omega | decide | (unfold inI64; omega) | (simp only [List.length_append, List.length_cons, List.length_nil] <;> omega) | (refine ⟨?_, ?_⟩ <;> omega) | (refine ⟨?_, ?_, ?_, ?_, ?_, ?_⟩ <;> first | rfl | trivial | decide | omega | (simp [bytesAV_length] <;> omega)) | (simp <;> omega) | (unfold inI64; simp only [List.length_append, List.length_cons, List.length_nil] <;> omega))); conv => whnf)
      | (refine brD (fun _ => ?_) (fun _ => ?_) <;> first | (exfalso; omega) | (conv => whnf))
      | (refine brB (fun _ => ?_) (fun _ => ?_) <;> conv => whnf)
      | (refine And.intro ⟨rfl, rfl, rfl, hcl, by decide, hcap⟩ ?_; conv => whnf))
    rw [onesP_succ]
    have hG : ∀ (H H' : List Blk) (sel : List (Option Nat)), GcB H H' sel (.cells 26 (((cellsL (onesA x)).drop 0).take (x * 6) ++ [[AV.int .i64 2, .int .i64 1, .int .i64 1000, .str [], nilA, nilA]].flatten)) (.cells 26 (cellsL (onesA (x + 1)))) := by
      intro H H' sel
      have := gcOne (H := H) (H' := H') (sel := sel) (onesA x) [AV.int .i64 2, .int .i64 1, .int .i64 1000, .str [], nilA, nilA] one1 ⟨.same _ rfl, .same _ rfl, .same _ rfl, .same _ rfl, .nil _ _, .nil _ _, trivial⟩
      rw [List.length_replicate] at this
      rw [show onesA (x + 1) = onesA x ++ [one1] from List.replicate_succ' ..]
      exact this
    exact ⟨x + 1, ⟨by omega, by omega⟩, Wk.gc [some 0, some 1, some 2] rfl rfl rfl ⟨⟨_, _, rfl, rfl, .same _ rfl⟩, ⟨_, _, rfl, rfl, .l (by simp [sc]) ⟨.same _ rfl, .own 2 2 1 0 0 _ 6 _ _ rfl rfl rfl, trivial⟩⟩, ⟨_, _, rfl, rfl, hG _ _ _⟩, trivial⟩
      ⟨⟨_, rfl, .same _ rfl⟩, ⟨_, rfl, .same _ rfl⟩, ⟨_, rfl, .same _ rfl⟩, ⟨_, rfl, .ptr 1 1 0 0 0 _ _ rfl rfl rfl⟩, ⟨_, rfl, .same _ rfl⟩, trivial⟩⟩
  · obtain rfl : x = kk := by omega
    have hpub : ∀ H, liveCells H 2 0 = some (26, cellsL (onesA x)) → Pub H 1 (.own 2 0 0 x 6) (.imm 6 (obL (onesA x))) := fun H h => by
      have := pubL (onesA x) h (show 1 ≤ 2 by decide)
      rwa [List.length_replicate] at this
    have hOL : (obL (List.replicate x one1)).length = x := by rw [obL_len, List.length_replicate]
    have hO2 : (opLs [([120], List.replicate x one1)]).length = 1 := by simp [opLs]
    by_cases h64 : x ≤ 64
    · rw [if_pos h64] at hP
      rw [if_pos h64, if_pos rfl] at hW
      simp only at hP
      conv => whnf
      repeat' (first
        | (refine And.intro ?_ ?_; (focus (first | omega | decide | (unfold inI64; omega) | (simp only [List.length_append, List.length_cons, List.length_nil] <;> omega) | (refine ⟨?_, ?_⟩ <;> omega) | (refine ⟨?_, ?_, ?_, ?_, ?_, ?_⟩ <;> first | rfl | trivial | decide | omega | (simp [bytesAV_length] <;> omega)) | (simp <;> omega) | (unfold inI64; simp only [List.length_append, List.length_cons, List.length_nil] <;> omega))); conv => whnf)
        | (refine brD (fun _ => ?_) (fun _ => ?_) <;> first | (exfalso; omega) | (conv => whnf))
        | (refine brB (fun _ => ?_) (fun _ => ?_) <;> conv => whnf)
        | ((first | refine CallG.e (hP) ?_ | refine CallD.e (hP) ?_ | refine CallQ.e (hP) ?_ | refine CallP.e (hP) ?_); conv => whnf)
        | (refine CallG.cut (H' := frm l) 1 [(3, .bool true), (4, .int .i64 x), (5, .str (onesP x)), (8, .imm 2 (opLs [([120], List.replicate x one1)])), (9, .int .i64 0)] [.imm 2 (opLs [([120], onesA x)])] 81 rfl rfl rfl ⟨⟨_, rfl, .same _ rfl⟩, ⟨_, rfl, .same _ rfl⟩, ⟨_, rfl, .same _ rfl⟩, ⟨_, rfl, .same _ (by simp [hb, opLs_hb, hbLL])⟩, ⟨_, rfl, .same _ rfl⟩, trivial⟩ rfl rfl ⟨pubOne [120] _ (onesA x) (hpub _ rfl), trivial⟩ (hW.a fun r hr' => ?_); subst hr'; conv => whnf))
      all_goals first | exact RetG.q ⟨rfl, rfl, rfl⟩ | (exfalso; omega) | skip
      all_goals first | exact RetG.q ⟨rfl, congrArg AV.bool (decide_eq_true rfl), rfl⟩ | (exfalso; rename_i h; exact h (by show ((obL (List.replicate x one1)).length : Int) = x; omega))
    · rw [if_neg h64] at hP
      rw [if_neg h64, if_neg (by decide)] at hW
      simp only at hP
      conv => whnf
      repeat' (first
        | (refine And.intro ?_ ?_; (focus (first | omega | decide | (unfold inI64; omega) | (simp only [List.length_append, List.length_cons, List.length_nil] <;> omega) | (refine ⟨?_, ?_⟩ <;> omega) | (refine ⟨?_, ?_, ?_, ?_, ?_, ?_⟩ <;> first | rfl | trivial | decide | omega | (simp [bytesAV_length] <;> omega)) | (simp <;> omega) | (unfold inI64; simp only [List.length_append, List.length_cons, List.length_nil] <;> omega))); conv => whnf)
        | (refine brD (fun _ => ?_) (fun _ => ?_) <;> first | (exfalso; omega) | (conv => whnf))
        | (refine brB (fun _ => ?_) (fun _ => ?_) <;> conv => whnf)
        | ((first | refine CallG.e (hP) ?_ | refine CallD.e (hP) ?_ | refine CallQ.e (hP) ?_ | refine CallP.e (hP) ?_); conv => whnf)
        | (refine CallG.cut (H' := frm l) 1 [(3, .bool true), (4, .int .i64 x), (5, .str (onesP x)), (8, .imm 2 (opLs [])), (9, .int .i64 6)] [.imm 2 (opLs [([120], onesA x)])] 81 rfl rfl rfl ⟨⟨_, rfl, .same _ rfl⟩, ⟨_, rfl, .same _ rfl⟩, ⟨_, rfl, .same _ rfl⟩, ⟨_, rfl, .same _ (by simp [hb, opLs_hb, hbLL])⟩, ⟨_, rfl, .same _ rfl⟩, trivial⟩ rfl rfl ⟨pubOne [120] _ (onesA x) (hpub _ rfl), trivial⟩ (hW.a fun r hr' => ?_); subst hr'; conv => whnf))
      all_goals first | exact RetG.q ⟨rfl, rfl, rfl⟩ | (exfalso; omega) | skip
end Ink.D
