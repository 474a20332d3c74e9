import Derived.Test.YtogcalejbddjjaaGreatDoorTyN5
import Derived.Test.YtogcalejbddjjaaGreatDoorPCosC
set_option linter.all false
namespace Ink.D
open Go Go.Proofs
set_option maxRecDepth 100000
variable {E : Env} (hE : E.P = Tryz.prog)

/-! so many operands -/
theorem gcOne {H H' : List Blk} {sel : List (Option Nat)} (A : List Ob) (raw : List AV) (o : Ob) (hr : GcL H H' sel raw (obC o)) :
    GcB H H' sel (.cells 26 (((cellsL A).drop 0).take (A.length * 6) ++ raw)) (.cells 26 (cellsL (A ++ [o]))) := by
  have e : ((cellsL A).drop 0).take (A.length * 6) = cellsL A := by rw [List.drop_zero, take_all (cellsL_length A)]
  have e2 : cellsL [o] = obC o := by simp [cellsL, obL_map]
  obtain ⟨h1, h2⟩ := hr.spec
  rw [e, cellsL_append, e2]
  refine .cells 26 _ _ (by rw [List.length_append, List.length_append, h1]; omega) ?_ (fun j x y hx hy => ?_)
  · intro x hx
    rcases List.mem_append.mp hx with hx | hx
    · obtain ⟨y, hy, hx⟩ := List.mem_flatten.mp hx
      rw [obL_map] at hy
      obtain ⟨o, _, rfl⟩ := List.mem_map.mp hy
      exact obC_sc o x hx
    · exact obC_sc o x hx
  · by_cases hj : j < (cellsL A).length
    · rw [List.getElem?_append_left hj] at hx hy
      rw [hx] at hy
      cases hy
      exact .same _ (hbL_iff.mp (cellsL_hb 0 A) x (List.mem_of_getElem? hx))
    · rw [List.getElem?_append_right (by omega)] at hx hy
      exact h2 _ x y hx hy

include hE
end Ink.D
