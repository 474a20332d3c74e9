import Derived.Test.YtogcalejbddjjaaGreatDoorPWrE
import Derived.Test.YtogcalejbddjjaaGreatDoorPCosC
import Derived.Test.YtogcalejbddjjaaGreatDoorPLexC
set_option linter.all false
namespace Ink.D
open Go Go.Proofs
set_option maxRecDepth 100000

/-! a number that is written is read -/
theorem rtrim_dot (W P : List UInt8) : rtrim (W ++ [46] ++ P) 48 = W ++ [46] ++ rtrim P 48 := by
  unfold rtrim
  rw [List.reverse_append, List.reverse_append]
  have key : ∀ (a b : List UInt8), (∀ c r, b = c :: r → c ≠ 48) → (a ++ b).dropWhile (· == 48) = a.dropWhile (· == 48) ++ b := by
    intro a b hb
    induction a with
    | nil =>
      cases b with
      | nil => rfl
      | cons c r => rw [List.nil_append, List.dropWhile_cons_of_neg (by simpa using hb c r rfl)]; rfl
    | cons c r ih =>
      by_cases hc : c = 48
      · subst hc
        rw [List.cons_append, List.dropWhile_cons_of_pos (by simp), List.dropWhile_cons_of_pos (by simp), ih]
      · rw [List.cons_append, List.dropWhile_cons_of_neg (by simpa using hc), List.dropWhile_cons_of_neg (by simpa using hc)]; rfl
  rw [key _ _ (by intro c r h; simp at h; rw [← h.1]; decide)]
  rw [List.reverse_append, List.reverse_append, List.reverse_reverse]
  simp

theorem fixO_dot (W Q : List UInt8) (hQ : Q.all isDig = true) : fixO (W ++ [46] ++ Q) = if Q = [] then W else W ++ [46] ++ Q := by
  unfold fixO
  by_cases h : Q = []
  · subst h
    rw [if_pos rfl, List.append_nil]
    have : sufB (W ++ [46]) [46] = true := by unfold sufB; simp
    rw [this]
    simp
  · rw [if_neg h]
    have : sufB (W ++ [46] ++ Q) [46] = false := by
      unfold sufB
      obtain ⟨a, c, rfl⟩ : ∃ a c, Q = a ++ [c] := ⟨Q.dropLast, Q.getLast h, (List.dropLast_concat_getLast h).symm⟩
      rw [List.all_append] at hQ
      have hc : c ≠ 46 := by
        intro e; subst e
        have : isDig 46 = false := by decide
        simp [this] at hQ
      have e : W ++ [46] ++ (a ++ [c]) = (W ++ [46] ++ a) ++ [c] := by simp
      rw [e]
      have e2 : (W ++ [46] ++ a ++ [c]).length - ([46] : List UInt8).length = (W ++ [46] ++ a).length := by simp
      rw [e2, List.drop_left]
      simp [hc]
    rw [this]
    rfl

end Ink.D
