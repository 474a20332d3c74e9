import Derived.Test.YtogcalejbddjjaaGreatDoorTyN6
import Derived.Test.YtogcalejbddjjaaGreatDoorTyOC
import Derived.Test.YtogcalejbddjjaaGreatDoorPCosE
set_option linter.all false
namespace Ink.D
open Go Go.Proofs
set_option maxRecDepth 100000
variable {E : Env} (hE : E.P = Tryz.prog)

/-! operators handed in: as ours, as theirs; few of them -/
theorem pubOt {H : List Blk} {n i ver : Nat} {t : TypeId} (F : List OpL) (hl : liveCells H i ver = some (t, cellsO F)) (hi : n ≤ i) : Pub H n (.own i ver 0 F.length 2) (.imm 2 (opLs F)) := by
  refine .own i ver 0 F.length 2 t _ _ hl hi (opLs_len F) ?_ ?_ ?_ (fun j x y hx hy => ?_)
  · intro x hx
    obtain ⟨o, _, rfl⟩ := List.mem_map.mp hx
    rfl
  · intro x hx
    obtain ⟨y, hy, hx⟩ := List.mem_flatten.mp hx
    obtain ⟨o, _, rfl⟩ := List.mem_map.mp hy
    exact opE_sc o x hx
  · show 0 + (cellsO F).length ≤ _
    simp
  · have hx' : (cellsO F)[j]? = some x := hx
    rw [Nat.zero_add, hx'] at hy
    cases hy
    exact .same _ (hbL_iff.mp (cellsO_hb n F) x (List.mem_of_getElem? hx'))

theorem cellsO_take {l : List OpL} {x : Nat} (h : x < l.length) : cellsO (l.take (x + 1)) = cellsO (l.take x) ++ opE l[x] := by
  rw [List.take_succ_eq_append_getElem h, cellsO_append]; simp [cellsO, opLs]

include hE
end Ink.D
