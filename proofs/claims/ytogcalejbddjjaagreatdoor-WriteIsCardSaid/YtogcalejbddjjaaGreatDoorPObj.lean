import Derived.Test.YtogcalejbddjjaaGreatDoorPLexA
set_option linter.all false
namespace Ink.D
open Go Go.Proofs
set_option maxRecDepth 100000
variable {E : Env} (hE : E.P = Tryz.prog)

inductive Ob where
  | mk (k n f : Int) (s : List UInt8) (l : List Ob) (d : List (List UInt8 × Ob))

mutual
def obC : Ob → List AV
  | .mk k n f s l d => [.int .i64 k, .int .i64 n, .int .i64 f, .str s, .imm 6 (obL l), .imm 7 (obD d)]
def obL : List Ob → List (List AV)
  | [] => []
  | o :: r => obC o :: obL r
def obD : List (List UInt8 × Ob) → List (List AV)
  | [] => []
  | e :: r => obE e :: obD r
def obE : List UInt8 × Ob → List AV
  | (k, o) => .str k :: obC o
end

theorem obL_map : ∀ l, obL l = l.map obC
  | [] => rfl
  | o :: r => by simp [obL, obL_map r]
theorem obD_map : ∀ l, obD l = l.map obE
  | [] => rfl
  | o :: r => by simp [obD, obD_map r]

mutual
theorem obC_hb {n0 : Nat} : ∀ o, hbL n0 (obC o) = true
  | .mk k n f s l d => by simp [obC, hbL, hb, obL_hb l, obD_hb d]
theorem obL_hb {n0 : Nat} : ∀ l, hbLL n0 (obL l) = true
  | [] => rfl
  | o :: r => by simp [obL, hbLL, obC_hb o, obL_hb r]
theorem obD_hb {n0 : Nat} : ∀ l, hbLL n0 (obD l) = true
  | [] => rfl
  | e :: r => by simp [obD, hbLL, obE_hb e, obD_hb r]
theorem obE_hb {n0 : Nat} : ∀ e, hbL n0 (obE e) = true
  | (k, o) => by simp [obE, hbL, hb, obC_hb o]
end

theorem obC_sc (o : Ob) : ∀ x ∈ obC o, sc x = true := by
  cases o; simp [obC, sc]

theorem obL_len (l : List Ob) : (obL l).length = l.length := by rw [obL_map]; simp
theorem obL_at {l : List Ob} {k : Nat} (h : k < l.length) : (obL l).getD (k : Int).toNat [] = obC l[k] := by
  rw [obL_map]; simp [h]

end Ink.D
