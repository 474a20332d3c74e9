import Derived.Test.YtogcalejbddjjaaGreatDoorPWrE
import Derived.Test.YtogcalejbddjjaaGreatDoorPWrB
import Derived.Test.YtogcalejbddjjaaGreatDoorPLexA
set_option linter.all false
namespace Ink.D
open Go Go.Proofs
set_option maxRecDepth 100000
variable {E : Env} (hE : E.P = Tryz.prog)

def resT (o : Ob) : List UInt8 := if errF o = 0 then txt o else []
theorem objAVF_eq (o : Ob) : objAVF o = .tup [.str (resT o), .int .i64 (errF o)] := by
  unfold objAVF resT
  by_cases h : errF o = 0
  · rw [if_pos h, if_pos h, h]
  · rw [if_neg h, if_neg h]

theorem count_bulk : ∀ (N : Nat) (o : Ob), sizeOf o < N → countO o ≤ bulkO o
  | 0, _, h => by omega
  | N + 1, .mk k n f s l d, h => by
    simp at h
    have hL : ∀ (l : List Ob), sizeOf l < N + 1 → countL l ≤ bulkL l := by
      intro l
      induction l with
      | nil => intro _; simp [countL]
      | cons o r ih => intro hz; simp at hz; have := count_bulk N o (by omega); have := ih (by omega); simp only [countL, bulkL]; omega
    have hD : ∀ (l : List (List UInt8 × Ob)), sizeOf l < N + 1 → countD l ≤ bulkD l := by
      intro l
      induction l with
      | nil => intro _; simp [countD]
      | cons e r ih => intro hz; obtain ⟨a, o⟩ := e; simp at hz; have := count_bulk N o (by omega); have := ih (by omega); simp only [countD, countE, bulkD, bulkE]; omega
    have := hL l (by omega)
    have := hD d (by omega)
    simp only [countO, bulkO]; omega

include hE
end Ink.D
