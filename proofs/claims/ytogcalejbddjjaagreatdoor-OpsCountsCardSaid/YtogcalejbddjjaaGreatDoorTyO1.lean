import Derived.Test.YtogcalejbddjjaaGreatDoorPCosC
set_option linter.all false
namespace Ink.D
open Go Go.Proofs
set_option maxRecDepth 100000
set_option linter.unusedSimpArgs false
set_option linter.unusedVariables false

/-! operators: what ops.Parse tells, in plain Lean -/
def constS (s : List UInt8) : Bool := decide (s = [116, 114, 117, 101]) || decide (s = [102, 97, 108, 115, 101]) || decide (s = [110, 117, 108, 108])
def operT (t : Tok) : Bool := decide (t.kind = 8) && !constS t.s

/-- an operand -/
def opObj (s : List UInt8) (t : Tok) : PR :=
  if t.kind ≠ 1 then parseR s t.from_ else (.mk 2 (if t.whole then 1 else 0) t.f [] [] [], t.to, 0)

abbrev OpL := List UInt8 × List Ob

/-- operators from a place on; n: more than can follow -/
def parO (s : List UInt8) : Nat → Int → List OpL → List Ob → List OpL × Int
  | 0, _, _, _ => ([], 6)
  | n + 1, at_, out, args =>
    if (nextL s at_).2 ≠ 0 then ([], (nextL s at_).2)
    else if (nextL s at_).1.kind = 0 ∧ args = [] then (out, 0)
    else if (nextL s at_).1.kind = 0 ∨ (operT (nextL s at_).1 = true ∧ (nextL s at_).1.s = [66, 73]) then ([], 3)
    else if (operT (nextL s at_).1 = true ∧ out.length = 65536) ∨ (operT (nextL s at_).1 = false ∧ args.length = 64) then ([], 6)
    else if operT (nextL s at_).1 = true then parO s n (nextL s at_).1.to (out ++ [((nextL s at_).1.s, args)]) []
    else if (opObj s (nextL s at_).1).2.2 ≠ 0 then ([], (opObj s (nextL s at_).1).2.2)
    else parO s n (opObj s (nextL s at_).1).2.1 out (args ++ [(opObj s (nextL s at_).1).1])

/-- how many rounds may follow -/
def parM (out : List OpL) (args : List Ob) : Nat := (65536 - out.length) * 65 + (64 - args.length) + 1
def parseO (s : List UInt8) : List OpL × Int := parO s (parM [] []) 0 [] []

/-! so many ones, and an operator -/
def onesT : Nat → List UInt8
  | 0 => [120]
  | k + 1 => [49, 32] ++ onesT k
abbrev one1 : Ob := .mk 2 1 1000 [] [] []

variable {s R : List UInt8} {p : Nat}
theorem nx_one (h : s.drop p = 49 :: 32 :: R) : nextL s p = (⟨1, 1000, [], true, p, p + 1⟩, 0) := by
  rw [nextL_at h (drop_le h (by simp))]; kernel_rfl
theorem nx_x (h : s.drop p = [120]) : nextL s p = (⟨8, 0, [120], false, p, p + 1⟩, 0) := by
  rw [nextL_at h (drop_le h (by simp))]; kernel_rfl

theorem par_one (n : Nat) (out : List OpL) (args : List Ob) (q : Nat) (h : nextL s p = (⟨1, 1000, [], true, q, q + 1⟩, 0)) :
    parO s (n + 1) p out args = if args.length = 64 then ([], 6) else parO s n ((q + 1 : Nat) : Int) out (args ++ [one1]) := by
  rw [parO, h]
  have h1 : operT ⟨1, 1000, [], true, q, q + 1⟩ = false := by simp [operT]
  have h2 : opObj s ⟨1, 1000, [], true, q, q + 1⟩ = (one1, ((q + 1 : Nat) : Int), 0) := by simp [opObj]
  simp only [h1, h2]
  simp

theorem par_x (n : Nat) (out : List OpL) (args : List Ob) (q : Nat) (ho : out.length < 65536) (h : nextL s p = (⟨8, 0, [120], false, q, q + 1⟩, 0)) :
    parO s (n + 1) p out args = parO s n ((q + 1 : Nat) : Int) (out ++ [([120], args)]) [] := by
  rw [parO, h]
  have h1 : operT ⟨8, 0, [120], false, q, q + 1⟩ = true := by simp [operT, constS]
  simp only [h1]
  simp
  omega

theorem par_end (n : Nat) (out : List OpL) (q : Nat) (h : nextL s p = (⟨0, 0, [], false, q, q⟩, 0)) : parO s (n + 1) p out [] = (out, 0) := by
  rw [parO, h]; simp

/-- from behind some ones on -/
theorem par_ones : ∀ (k n p : Nat) (args : List Ob), s.drop p = 32 :: onesT k → k + 2 ≤ n → args.length ≤ 64 → parO s n p [] args = if args.length + k ≤ 64 then ([([120], args ++ List.replicate k one1)], 0) else ([], 6)
  | 0, n + 2, p, args, h, hn, ha => by
    have h2 : s.drop (p + 1) = [120] := drop_more (A := [32]) h
    have h3 : s.drop (p + 1 + 1) = [] := drop_more (A := [120]) (B := []) h2
    have hl : p + 1 + 1 ≤ s.length := by
      have := congrArg List.length h
      simp [onesT] at this; omega
    rw [par_x (n + 1) [] args (p + 1) (by simp) ((nx_space h).trans (nx_x h2)), par_end n _ (p + 1 + 1) (nx_end h3 hl), if_pos (by omega)]
    simp
  | k + 1, n + 1, p, args, h, hn, ha => by
    have h2 : s.drop (p + 1) = 49 :: 32 :: onesT k := drop_more (A := [32]) h
    have h3 : s.drop (p + 1 + 1) = 32 :: onesT k := drop_more (A := [49]) h2
    rw [par_one n [] args (p + 1) ((nx_space h).trans (nx_one h2))]
    by_cases ha2 : args.length = 64
    · rw [if_pos ha2, if_neg (by omega)]
    · rw [if_neg ha2, par_ones k n (p + 1 + 1) (args ++ [one1]) h3 (by omega) (by simp; omega)]
      have e : (args ++ [one1]).length + k = args.length + (k + 1) := by simp; omega
      rw [e, List.append_assoc]
      rfl
  | 0, 0, p, args, h, hn, _ => by omega
  | 0, 1, p, args, h, hn, _ => by omega
  | k + 1, 0, p, args, h, hn, _ => by omega

theorem parse_ones (k : Nat) (hk : k < 128) : parseO (onesT k) = if k ≤ 64 then ([([120], List.replicate k one1)], 0) else ([], 6) := by
  unfold parseO
  have hM : parM [] [] = 4259903 + 2 := rfl
  rw [hM]
  cases k with
  | zero =>
    have h2 : (onesT 0).drop 0 = [120] := rfl
    have h3 : (onesT 0).drop 1 = [] := rfl
    rw [show (0 : Int) = ((0 : Nat) : Int) from rfl, par_x (4259903 + 1) [] [] 0 (by simp) (nx_x h2), par_end 4259903 _ (0 + 1) (nx_end h3 (by simp [onesT])), if_pos (by omega)]
    rfl
  | succ k =>
    have h2 : (onesT (k + 1)).drop 0 = 49 :: 32 :: onesT k := rfl
    have h3 : (onesT (k + 1)).drop (0 + 1) = 32 :: onesT k := rfl
    rw [show (0 : Int) = ((0 : Nat) : Int) from rfl, par_one (4259903 + 1) [] [] 0 (nx_one h2), if_neg (by simp), par_ones k (4259903 + 1) (0 + 1) _ h3 (by omega) (by simp)]
    have e : ([] ++ [one1]).length + k = k + 1 := by simp; omega
    rw [e]
    rfl
end Ink.D
