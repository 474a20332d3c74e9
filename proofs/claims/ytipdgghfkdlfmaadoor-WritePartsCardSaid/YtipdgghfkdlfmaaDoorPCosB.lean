import Derived.Test.YtipdgghfkdlfmaaDoorInkBB
import Derived.Test.YtipdgghfkdlfmaaDoorPLexA
import Derived.Test.YtipdgghfkdlfmaaDoorPLexB
import Derived.Test.YtipdgghfkdlfmaaDoorPCosA
import Derived.Test.YtipdgghfkdlfmaaDoorInkF
set_option linter.all false
namespace Ink.D
open Go
end Ink.D

namespace Ink.D
open Go Go.Proofs
set_option maxRecDepth 100000
end Ink.D

namespace Ink.D
open Go Go.Proofs
set_option maxRecDepth 100000
set_option linter.unusedSimpArgs false
set_option linter.unusedVariables false
variable {E : Env} (hE : E.P = Tryd.prog)

abbrev nilA : AV := .lit (.slice none 0 0)
include hE
end Ink.D

namespace Ink.D
open Go Go.Proofs
set_option maxRecDepth 100000
set_option linter.unusedSimpArgs false
set_option linter.unusedVariables false
variable {E : Env} (hE : E.P = Tryd.prog)

include hE
end Ink.D

namespace Ink.D
open Go Go.Proofs
set_option maxRecDepth 100000
set_option linter.unusedSimpArgs false
set_option linter.unusedVariables false
variable {E : Env} (hE : E.P = Tryd.prog)

include hE
omit hE in
def cellsL (d : List Ob) : List AV := (obL d).flatten
omit hE in
theorem cellsL_append (a b : List Ob) : cellsL (a ++ b) = cellsL a ++ cellsL b := by
  simp [cellsL, obL_map]

omit hE in
theorem obC_len (o : Ob) : (obC o).length = 6 := by
  obtain ⟨k, n, f, s, l, d⟩ := o
  unfold obC
  rfl
omit hE in
theorem cellsL_length (l : List Ob) : (cellsL l).length = l.length * 6 := by
  induction l with
  | nil => rfl
  | cons o l ih => rw [← List.singleton_append, cellsL_append, List.length_append, ih, List.length_append]; simp [cellsL, obL_map, obC_len]; omega
omit hE in
theorem pubL {H : List Blk} {n i ver : Nat} (F : List Ob) (hl : liveCells H i ver = some (47, cellsL F)) (hi : n ≤ i) : Pub H n (.own i ver 0 F.length 6) (.imm 6 (obL F)) := by
  refine .own i ver 0 F.length 6 47 _ _ hl hi (by rw [obL_map]; simp) ?_ ?_ ?_ (fun j x y hx hy => ?_)
  · intro x hx
    rw [obL_map] at hx
    obtain ⟨o, _, rfl⟩ := List.mem_map.mp hx
    exact obC_len o
  · intro x hx
    obtain ⟨y, hy, hx⟩ := List.mem_flatten.mp hx
    rw [obL_map] at hy
    obtain ⟨o, _, rfl⟩ := List.mem_map.mp hy
    exact obC_sc o x hx
  · show 0 + (cellsL F).length ≤ _
    simp
  · have hx' : (cellsL F)[j]? = some x := hx
    rw [Nat.zero_add, hx'] at hy
    cases hy
    refine .same _ ?_
    obtain ⟨z, hz, hx2⟩ := List.mem_flatten.mp (List.mem_of_getElem? hx)
    rw [obL_map] at hz
    obtain ⟨o, _, rfl⟩ := List.mem_map.mp hz
    exact hbL_iff.mp (obC_hb o) x hx2

omit hE in
theorem take_all {α : Type} {l : List α} {n : Nat} (h : l.length = n) : l.take n = l := by rw [← h, List.take_length]
omit hE in
theorem cellsL_hb (n0 : Nat) (l : List Ob) : hbL n0 (cellsL l) = true := by
  rw [hbL_iff]
  intro x hx
  obtain ⟨z, hz, hx2⟩ := List.mem_flatten.mp hx
  rw [obL_map] at hz
  obtain ⟨o, _, rfl⟩ := List.mem_map.mp hz
  exact hbL_iff.mp (obC_hb o) x hx2
omit hE in
theorem _root_.Ink.GcB.eq {H H' : List Blk} {sel : List (Option Nat)} {k k' : BK} (h : k = k') (hf : bkFree k' = true) : GcB H H' sel k k' := by
  subst h; exact .same _ hf

end Ink.D

namespace Ink.D
open Go Go.Proofs
set_option maxRecDepth 100000
set_option linter.unusedSimpArgs false
set_option linter.unusedVariables false
variable {E : Env} (hE : E.P = Tryd.prog)

include hE
omit hE in
mutual
/-- how many objects -/
def countO : Ob → Nat
  | .mk _ _ _ _ l d => 1 + countL l + countD d
def countL : List Ob → Nat
  | [] => 0
  | o :: r => countO o + countL r
def countD : List (List UInt8 × Ob) → Nat
  | [] => 0
  | e :: r => countE e + countD r
def countE : List UInt8 × Ob → Nat
  | (_, o) => countO o
end
omit hE in
theorem countE_eq (e : List UInt8 × Ob) : countE e = countO e.2 := by obtain ⟨a, o⟩ := e; rfl
omit hE in
theorem countL_len (l : List Ob) : l.length ≤ countL l := by
  induction l with
  | nil => simp
  | cons o l ih => cases o; simp [countL, countO]; omega
omit hE in
theorem countD_len (l : List (List UInt8 × Ob)) : l.length ≤ countD l := by
  induction l with
  | nil => simp
  | cons e l ih => obtain ⟨a, o⟩ := e; cases o; simp [countD, countE, countO]; omega

end Ink.D

namespace Ink.D
open Go Go.Proofs
set_option maxRecDepth 100000
set_option linter.unusedSimpArgs false
set_option linter.unusedVariables false
variable {E : Env} (hE : E.P = Tryd.prog)

include hE
omit hE in
theorem countO_mem {l : List Ob} {o : Ob} (h : o ∈ l) : countO o ≤ countL l := by
  induction l with
  | nil => simp at h
  | cons a l ih =>
    rcases List.mem_cons.mp h with rfl | h
    · simp [countL]
    · have := ih h; simp [countL]; omega
omit hE in
theorem countD_mem {d : List (List UInt8 × Ob)} {e : List UInt8 × Ob} (h : e ∈ d) : countO e.2 ≤ countD d := by
  induction d with
  | nil => simp at h
  | cons a l ih =>
    rcases List.mem_cons.mp h with rfl | h
    · simp [countD, countE_eq]
    · have := ih h; simp [countD]; omega

end Ink.D
