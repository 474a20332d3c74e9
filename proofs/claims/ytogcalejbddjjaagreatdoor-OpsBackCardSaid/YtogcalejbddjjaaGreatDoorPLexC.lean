import Derived.Test.YtogcalejbddjjaaGreatDoorPLexB
set_option linter.all false
namespace Ink.D
open Go Go.Proofs
set_option maxRecDepth 100000

/-! there and back: texts -/
theorem escL_let (d : UInt8) (t : List UInt8) (h1 : isOct d = false) (h2 : d ≠ 13) : escL (d :: t) = (escC d, 1) := by
  have : octalL (d :: t) = (0, 0) := by simp [octalL, octG, h1]
  have h3 : List.isPrefixOf [13, 10] (d :: t) = false := by
    simp only [List.isPrefixOf]
    have : ((13 : UInt8) == d) = false := by simpa using Ne.symm h2
    rw [this]; rfl
  simp [escL, this, h3]

theorem escL_oct (a b c : UInt8) (t : List UInt8) (h1 : isOct a = true) (h2 : isOct b = true) (h3 : isOct c = true) : escL (a :: b :: c :: t) = ([UInt8.ofNat (((a.toNat - 48) * 8 + (b.toNat - 48)) * 8 + (c.toNat - 48))], 3) := by
  have : octalL (a :: b :: c :: t) = (((a.toNat - 48) * 8 + (b.toNat - 48)) * 8 + (c.toNat - 48), 3) := by simp [octalL, octG, h1, h2, h3]
  simp [escL, this]

theorem quoteC_cases (c : UInt8) : (∃ d, quoteC c = [92, d] ∧ isOct d = false ∧ d ≠ 13 ∧ escC d = [c]) ∨
    (∃ x y z, quoteC c = [92, x, y, z] ∧ isOct x = true ∧ isOct y = true ∧ isOct z = true ∧ UInt8.ofNat (((x.toNat - 48) * 8 + (y.toNat - 48)) * 8 + (z.toNat - 48)) = c) ∨
    (quoteC c = [c] ∧ c ≠ 92 ∧ c ≠ 40 ∧ c ≠ 41 ∧ c ≠ 13) := by
  have key : ∀ c : UInt8, (if quoteC c = [c] then decide (c ≠ 92 ∧ c ≠ 40 ∧ c ≠ 41 ∧ c ≠ 13) else match quoteC c with
      | [e, d] => decide (e = 92 ∧ isOct d = false ∧ d ≠ 13 ∧ escC d = [c])
      | [e, x, y, z] => decide (e = 92 ∧ isOct x = true ∧ isOct y = true ∧ isOct z = true ∧ UInt8.ofNat (((x.toNat - 48) * 8 + (y.toNat - 48)) * 8 + (z.toNat - 48)) = c)
      | _ => false) = true := by
    intro c
    revert c
    refine u8all ?_
    decide +kernel
  have := key c
  split at this
  · rename_i h
    exact .inr (.inr ⟨h, of_decide_eq_true this⟩)
  · split at this
    · rename_i e d h
      obtain ⟨rfl, h1⟩ := of_decide_eq_true this
      exact .inl ⟨d, h, h1⟩
    · rename_i e x y z h
      obtain ⟨rfl, h1⟩ := of_decide_eq_true this
      exact .inr (.inl ⟨x, y, z, h, h1⟩)
    · cases this

theorem textL_quoteC (c : UInt8) (t : List UInt8) : textL (quoteC c ++ t) 0 = (textL t 0).map fun x => (c :: x.1, (quoteC c).length + x.2) := by
  rcases quoteC_cases c with ⟨d, h, h1, h2, h3⟩ | ⟨x, y, z, h, h1, h2, h3, h4⟩ | ⟨h, h1, h2, h3, h4⟩
  · rw [h]
    simp only [List.cons_append, List.nil_append]
    rw [textL_cons, escL_let d t h1 h2, h3]
    simp
  · rw [h]
    simp only [List.cons_append, List.nil_append]
    rw [textL_cons, escL_oct x y z t h1 h2 h3, h4]
    simp
  · rw [h]
    simp only [List.cons_append, List.nil_append]
    rw [textL_cons]
    simp [h1, h2, h3, h4]

theorem textL_quote (s t : List UInt8) : textL ((s.map quoteC).flatten ++ t) 0 = (textL t 0).map fun x => (s ++ x.1, ((s.map quoteC).flatten).length + x.2) := by
  induction s with
  | nil => simp
  | cons c r ih =>
    simp only [List.map_cons, List.flatten_cons, List.append_assoc]
    rw [textL_quoteC, ih, Option.map_map]
    congr 1
    funext x
    simp [Function.comp_def]; omega

theorem nameC_cases (c : UInt8) : (nameC c = [c] ∧ isReg c = true ∧ c ≠ 35) ∨ (∃ x y, nameC c = [35, x, y] ∧ isReg x = true ∧ isReg y = true ∧ octV [x, y] = some c) := by
  have key : ∀ c : UInt8, (if nameC c = [c] then decide (isReg c = true ∧ c ≠ 35) else match nameC c with
      | [e, x, y] => decide (e = 35 ∧ isReg x = true ∧ isReg y = true ∧ octV [x, y] = some c)
      | _ => false) = true := by
    intro c
    revert c
    refine u8all ?_
    decide +kernel
  have := key c
  split at this
  · rename_i h
    exact .inl ⟨h, of_decide_eq_true this⟩
  · split at this
    · rename_i e x y h
      obtain ⟨rfl, h1⟩ := of_decide_eq_true this
      exact .inr ⟨x, y, h, h1⟩
    · cases this

theorem octV_app (x y : UInt8) (t : List UInt8) : octV (x :: y :: t) = octV [x, y] := rfl

theorem name_reg (s : List UInt8) : ((s.map nameC).flatten).all isReg = true := by
  induction s with
  | nil => rfl
  | cons c r ih =>
    simp only [List.map_cons, List.flatten_cons, List.all_append, ih, Bool.and_true]
    rcases nameC_cases c with ⟨h, h1, _⟩ | ⟨x, y, h, h1, h2, _⟩
    · rw [h]; simp [h1]
    · have : isReg 35 = true := by decide
      rw [h]; simp [h1, h2, this]

theorem named_name (s : List UInt8) : namedL ((s.map nameC).flatten) = some s := by
  induction s with
  | nil => simp [namedL]
  | cons c r ih =>
    simp only [List.map_cons, List.flatten_cons]
    rcases nameC_cases c with ⟨h, _, h1⟩ | ⟨x, y, h, _, _, h1⟩
    · rw [h, List.singleton_append, namedL, if_neg h1, ih]; rfl
    · rw [h]
      simp only [List.cons_append, List.nil_append]
      rw [namedL, if_pos rfl, octV_app, h1]
      simp [ih]

theorem tw_all (p : UInt8 → Bool) (a b : List UInt8) (ha : a.all p = true) (hb : ∀ c r, b = c :: r → p c = false) : (a ++ b).takeWhile p = a := by
  induction a with
  | nil =>
    match b, hb with
    | [], _ => rfl
    | c :: r, hb => simp [hb c r rfl]
  | cons c r ih =>
    simp only [List.all_cons, Bool.and_eq_true] at ha
    rw [List.cons_append, List.takeWhile_cons_of_pos ha.1, ih ha.2]

end Ink.D
