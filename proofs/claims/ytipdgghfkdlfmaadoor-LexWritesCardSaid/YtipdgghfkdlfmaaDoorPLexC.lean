import Derived.Test.YtipdgghfkdlfmaaDoorPLexB
set_option linter.all false
namespace Ink.D
open Go Go.Proofs
set_option maxRecDepth 100000
set_option linter.unusedSimpArgs false
variable {E : Env} (hE : E.P = Tryd.prog)

theorem aw1 : nextL [47, 65, 35, 50, 48, 66, 32, 49] 0 = (⟨2, 0, [65, 32, 66], false, 0, 6⟩, 0) := by decide +kernel
theorem aw2 : nextL [40, 97, 92, 40, 98, 41] 0 = (⟨3, 0, [97, 40, 98], false, 0, 6⟩, 0) := by decide +kernel
theorem aw3 : nextL [60, 52, 62] 0 = (⟨3, 0, [64], false, 0, 3⟩, 0) := by decide +kernel
theorem aw4 : 40 :: ([40].map quoteC).flatten ++ [41] = ([40, 92, 40, 41] : List UInt8) := by decide +kernel
theorem aw5 : 47 :: ([65, 32, 66].map nameC).flatten = ([47, 65, 35, 50, 48, 66] : List UInt8) := by decide +kernel

include hE
theorem awake : PCalls E 15 [] (· = .bool true) := by
  have h1 := next hE [47, 65, 35, 50, 48, 66, 32, 49] 0 (by decide)
  have h2 := next hE [40, 97, 92, 40, 98, 41] 0 (by decide)
  have h3 := next hE [60, 52, 62] 0 (by decide)
  have h4 := quote hE [40] (by decide)
  have h5 := nameOf hE [65, 32, 66] (by decide)
  rw [aw1] at h1
  rw [aw2] at h2
  rw [aw3] at h3
  rw [aw4] at h4
  rw [aw5] at h5
  refine p15 hE fun l => ?_
  conv => whnf
  repeat' (first
    | (refine And.intro ?_ ?_; (focus (first | omega | decide | (unfold inI64; omega) | (simp only [List.length_append, List.length_cons, List.length_nil] <;> omega) | (refine ⟨?_, ?_⟩ <;> omega) | (simp <;> omega) | (unfold inI64; simp only [List.length_append, List.length_cons, List.length_nil] <;> omega))); conv => whnf)
    | (refine brD (fun _ => ?_) (fun _ => ?_) <;> conv => whnf)
    | (refine brB (fun _ => ?_) (fun _ => ?_) <;> conv => whnf)
    | (refine CallG.e (h1) ?_; conv => whnf)
    | (refine CallG.e (h2) ?_; conv => whnf)
    | (refine CallG.e (h3) ?_; conv => whnf)
    | (refine CallG.e (h4) ?_; conv => whnf)
    | (refine CallG.e (h5) ?_; conv => whnf))
  exact RetG.drop rfl rfl rfl ⟨rfl, rfl, rfl⟩
end Ink.D

namespace Ink.D
open Go Go.Proofs
set_option maxRecDepth 100000
set_option linter.unusedSimpArgs false
variable {E : Env} (hE : E.P = Tryd.prog)

def Tok.sh (n : Nat) (t : Tok) : Tok := ⟨t.kind, t.f, t.s, t.whole, t.from_ + n, t.to + n⟩

theorem wordL_sh (r : List UInt8) (k n : Nat) : wordL r (k + n) = ((wordL r k).1.sh n, (wordL r k).2) := by
  unfold wordL
  dsimp only
  split
  · simp only [Tok.sh, Prod.mk.injEq, Tok.mk.injEq]; simp; omega
  · simp only [Tok.sh, Prod.mk.injEq, Tok.mk.injEq]; simp; omega

theorem digsL_err : ∀ (t : List UInt8) (e : Int), digsL t = .error e → e = 3 ∨ e = 4
  | [], e, h => by simp [digsL] at h; omega
  | c :: r, e, h => by
    have ih := digsL_err r
    unfold digsL at h
    split at h
    · cases hr : digsL r with
      | error e' => rw [hr] at h; simp [Except.map] at h; subst h; exact ih _ hr
      | ok x => rw [hr] at h; simp [Except.map] at h
    · split at h
      · cases h
      · split at h
        · cases hr : digsL r with
          | error e' => rw [hr] at h; simp [Except.map] at h; subst h; exact ih _ hr
          | ok x => rw [hr] at h; simp [Except.map] at h
        · simp at h; omega

theorem tokL_sh (r : List UInt8) (k n : Nat) (hr : r ≠ []) : (tokL r (k + n)).2 = (tokL r k).2 ∧ ((tokL r k).2 = 0 → (tokL r (k + n)).1 = (tokL r k).1.sh n) := by
  unfold tokL
  repeat' split
  all_goals try (rw [wordL_sh]; simp)
  all_goals try (simp [Tok.sh]; try omega)
  · exact absurd rfl hr
  · rename_i h
    intro he
    have := digsL_err _ _ h
    omega

theorem textL_le : ∀ (n : Nat) (s : List UInt8) (d : Nat) (x : List UInt8 × Nat), s.length ≤ n → textL s d = some x → x.2 ≤ s.length ∧ x.1.length ≤ x.2
  | 0, s, d, x, hn, h => by
    have : s = [] := List.eq_nil_of_length_eq_zero (by omega)
    subst this; rw [textL_nil] at h; cases h
  | n + 1, [], d, x, hn, h => by rw [textL_nil] at h; cases h
  | n + 1, c :: r, d, x, hn, h => by
    rw [textL_cons] at h
    simp only [List.length_cons] at hn ⊢
    have one : ∀ (d' : Nat) (a : List UInt8), a.length ≤ 1 → ((textL r d').map fun x => (a ++ x.1, 1 + x.2)) = some x → x.2 ≤ r.length + 1 ∧ x.1.length ≤ x.2 := by
      intro d' a ha h
      obtain ⟨y, hy, rfl⟩ := Option.map_eq_some_iff.mp h
      have := textL_le n r d' y (by omega) hy
      simp only [List.length_append]; omega
    split at h
    · split at h
      · cases h
      · rename_i hr
        obtain ⟨y, hy, rfl⟩ := Option.map_eq_some_iff.mp h
        have he := escL_le r hr
        have := textL_le n (r.drop (escL r).2) d y (by simp; omega) hy
        simp only [List.length_drop] at this
        simp only [List.length_append]; omega
    · split at h
      · exact one _ [c] (by simp) h
      · split at h
        · split at h
          · cases h; simp
          · exact one _ [c] (by simp) h
        · split at h
          · split at h
            · exact one _ [] (by simp) h
            · exact one _ [10] (by simp) h
          · exact one _ [c] (by simp) h

theorem digsL_le : ∀ (t : List UInt8) (x : List UInt8 × Nat), digsL t = .ok x → x.2 ≤ t.length ∧ x.1.length ≤ x.2
  | [], x, h => by simp [digsL] at h
  | c :: r, x, h => by
    have ih := digsL_le r
    unfold digsL at h
    simp only [List.length_cons]
    split at h
    · cases hr : digsL r with
      | error e' => rw [hr] at h; simp [Except.map] at h
      | ok y => rw [hr] at h; simp [Except.map] at h; subst h; have := ih y hr; simp; omega
    · split at h
      · cases h; simp
      · split at h
        · cases hr : digsL r with
          | error e' => rw [hr] at h; simp [Except.map] at h
          | ok y => rw [hr] at h; simp [Except.map] at h; subst h; have := ih y hr; simp; omega
        · cases h

theorem tw_le (p : UInt8 → Bool) (s : List UInt8) : (s.takeWhile p).length ≤ s.length := (List.takeWhile_sublist p).length_le

theorem wordL_le (r : List UInt8) (k : Nat) : (wordL r k).1.from_ = k ∧ (wordL r k).1.to ≤ k + r.length := by
  have := tw_le isReg r
  unfold wordL
  dsimp only
  split <;> simp <;> omega

theorem prefix_le {a r : List UInt8} (h : a.isPrefixOf r = true) : a.length ≤ r.length := (List.isPrefixOf_iff_prefix.mp h).length_le

theorem tokL_le (r : List UInt8) (k : Nat) : (tokL r k).1.from_ ≤ k ∧ (tokL r k).1.to ≤ k + r.length := by
  unfold tokL
  split
  · rename_i h; have := prefix_le h; simp at this ⊢; omega
  split
  · rename_i h; have := prefix_le h; simp at this ⊢; omega
  split
  · rename_i h; have := prefix_le h; simp at this ⊢; omega
  split
  · rename_i h; have := prefix_le h; simp at this ⊢; omega
  split
  · simp [Tok.zero]
  rename_i c t _ _ _ _
  simp only [List.length_cons]
  have h1 := tw_le isReg t
  split
  · split <;> simp <;> omega
  split
  · split
    · rename_i h; have := (textL_le _ _ _ _ (Nat.le_refl _) h).1; simp; omega
    · simp [Tok.zero]
  split
  · split
    · rename_i h; have := (digsL_le _ _ h).1; simp; omega
    · simp [Tok.zero]
  split
  · simp [Tok.zero]
  · have := wordL_le (c :: t) k
    simp only [List.length_cons] at this; omega

theorem nextL_le (s : List UInt8) (at_ : Int) : (nextL s at_).1.from_ ≤ s.length ∧ (nextL s at_).1.to ≤ s.length := by
  unfold nextL
  split
  · simp [Tok.zero]
  · dsimp only
    rename_i hr
    have hle := spaceL_le s at_.toNat (by omega)
    split
    · simp; omega
    · split
      · have := tokL_le (s.drop (spaceL s at_.toNat)) (spaceL s at_.toNat)
        simp only [List.length_drop] at this; omega
      · simp [Tok.zero]

theorem skip_app (c t : List UInt8) (h : c.all notEol = true) : skip (c ++ t) true = c.length + skip t true := by
  induction c with
  | nil => simp
  | cons a r ih =>
    simp only [List.all_cons, Bool.and_eq_true] at h
    simp only [List.cons_append, skip, h.1, if_true, ih h.2, List.length_cons]
    omega

def aheadL (c : List UInt8) : List UInt8 := [32, 9, 37] ++ c ++ [10, 0]

theorem skip_ahead (c s : List UInt8) (h : c.all notEol = true) : skip (aheadL c ++ s) false = (aheadL c).length + skip s false := by
  have e : aheadL c ++ s = 32 :: 9 :: 37 :: (c ++ (10 :: 0 :: s)) := by simp [aheadL]
  rw [e]
  have h1 := skip_app c (10 :: 0 :: s) h
  have i1 : isWhite 32 = true := rfl
  have i2 : isWhite 9 = true := rfl
  have i3 : isWhite 37 = false := rfl
  have i4 : notEol 10 = false := rfl
  have i5 : isWhite 0 = true := rfl
  simp only [skip, i1, i2, i3, if_true, h1, Bool.false_eq_true, if_false, i4, i5]
  simp [aheadL]; omega

theorem next_ahead (c s : List UInt8) (h : c.all notEol = true) : (nextL (aheadL c ++ s) 0).2 = (nextL s 0).2 ∧ ((nextL s 0).2 = 0 → (nextL (aheadL c ++ s) 0).1 = (nextL s 0).1.sh (aheadL c).length) ∧
    ((nextL s 0).2 ≠ 0 → (nextL (aheadL c ++ s) 0).1.to = 0 ∧ (nextL s 0).1.to = 0) := by
  have hsk : spaceL (aheadL c ++ s) 0 = spaceL s 0 + (aheadL c).length := by
    unfold spaceL; simp only [List.drop_zero]; rw [skip_ahead c s h]; omega
  have hdr : (aheadL c ++ s).drop (spaceL s 0 + (aheadL c).length) = s.drop (spaceL s 0) := by
    rw [List.drop_append, List.drop_eq_nil_of_le (by omega)]; simp
  have hp : ∀ t : List UInt8, ¬ ((0 : Int) < 0 ∨ (t.length : Int) < 0) := fun t => by omega
  unfold nextL
  rw [if_neg (hp _), if_neg (hp _)]
  dsimp only
  have z : Int.toNat 0 = 0 := rfl
  rw [z, hsk, hdr]
  have hle := spaceL_le s 0 (by omega)
  by_cases he : spaceL s 0 = s.length
  · rw [if_pos (by simp; omega), if_pos he]
    simp [Tok.sh]
  · obtain ⟨t1, t2⟩ := tokL_sh (s.drop (spaceL s 0)) (spaceL s 0) (aheadL c).length (by simp; omega)
    rw [if_neg (by simp; omega), if_neg he, t1]
    split
    · rename_i h0
      refine ⟨t1, t2, fun hn => absurd h0 hn⟩
    · rename_i h0
      exact ⟨rfl, fun hz => absurd hz h0, fun _ => ⟨rfl, rfl⟩⟩

include hE
theorem lexSpaces (s c : List UInt8) (hs : s.length ≤ 9223372036854775807) (hc : c.length ≤ 9223372036854775807) : PCalls E 6 [.str s, .str c] (· = .bool true) := by
  refine p6 hE fun l => ?_
  conv => whnf
  repeat' (first
    | (refine And.intro ?_ ?_; (focus (first | omega | decide | (unfold inI64; omega) | (simp only [List.length_append, List.length_cons, List.length_nil] <;> omega) | (refine ⟨?_, ?_⟩ <;> omega) | (simp <;> omega) | (unfold inI64; simp only [List.length_append, List.length_cons, List.length_nil] <;> omega))); conv => whnf)
    | (refine brD (fun _ => ?_) (fun _ => ?_) <;> conv => whnf)
    | (refine brB (fun _ => ?_) (fun _ => ?_) <;> conv => whnf)
    | (refine CallG.e (awake hE) ?_; conv => whnf))
  all_goals try exact RetG.drop rfl rfl rfl ⟨rfl, rfl, rfl⟩
  rename_i h1 h2
  have hs : s.length ≤ 500 := by omega
  have hc : c.length ≤ 200 := by omega
  clear h1 h2
  refine LoopG.s (fun x : Nat => x ≤ c.length ∧ (c.take x).all notEol = true) 113 (fun x => [(0, .str s), (1, .str c), (4, .bool false), (5, .bool true), (6, .int .i64 x)]) (fun _ => frm l) (fun x => c.length - x) 0 ⟨by omega, rfl⟩ rfl ⟨rfl, rfl, rfl, rfl, rfl⟩ rfl ?_
  rintro x ⟨h1, h2⟩
  have hA : (aheadL c).length = c.length + 5 := by simp [aheadL]
  have hn1 := next hE s 0 (by omega)
  have hn2 := next hE (aheadL c ++ s) 0 (by rw [List.length_append, hA]; omega)
  by_cases hx : x < c.length
  · have hg := getD_at c x hx
    conv => whnf
    repeat' (first
      | (refine And.intro ?_ ?_; (focus (first | omega | decide | (unfold inI64; omega) | (simp only [List.length_append, List.length_cons, List.length_nil] <;> omega) | (refine ⟨?_, ?_⟩ <;> omega) | (simp <;> omega) | (unfold inI64; simp only [List.length_append, List.length_cons, List.length_nil] <;> omega))); conv => whnf)
      | (refine brD (fun _ => ?_) (fun _ => ?_) <;> conv => whnf)
      | (refine brB (fun _ => ?_) (fun _ => ?_) <;> conv => whnf))
    all_goals try (exact RetG.drop rfl rfl rfl ⟨rfl, rfl, rfl⟩)
    all_goals try (exfalso; omega)
    rename_i a b
    rw [hg] at a b
    refine ⟨x + 1, ⟨⟨by omega, ?_⟩, by omega⟩, Wk.slots rfl ⟨rfl, rfl, rfl, rfl, rfl⟩⟩
    rw [List.take_succ_eq_append_getElem hx, List.all_append, h2]
    have a : c[x] ≠ 10 := by simpa [zEq] using a
    have b : c[x] ≠ 13 := by simpa [zEq] using b
    simp [notEol, a, b]
  · have : x = c.length := by omega
    subst this
    rw [List.take_length] at h2
    obtain ⟨f1, f2, f3⟩ := next_ahead c s h2
    have b1 := nextL_le s 0
    generalize nextL s 0 = X at *
    generalize nextL (aheadL c ++ s) 0 = Y at *
    obtain ⟨X, e⟩ := X
    obtain ⟨Y, e'⟩ := Y
    dsimp only at *
    subst f1
    by_cases he : e' = 0
    · have hY := f2 he
      subst hY
      subst he
      conv => whnf
      repeat' (first
        | (refine And.intro ?_ ?_; (focus (first | omega | decide | (unfold inI64; omega) | (simp only [List.length_append, List.length_cons, List.length_nil] <;> omega) | (refine ⟨?_, ?_⟩ <;> omega) | (simp <;> omega) | (unfold inI64; simp only [List.length_append, List.length_cons, List.length_nil] <;> omega))); conv => whnf)
        | (refine brD (fun _ => ?_) (fun _ => ?_) <;> conv => whnf)
        | (refine brB (fun _ => ?_) (fun _ => ?_) <;> conv => whnf)
        | (refine CallG.e (hn1) ?_; conv => whnf)
        | (refine CallG.e (hn2) ?_; conv => whnf))
      all_goals try (exfalso; omega)
      all_goals try contradiction
      refine RetG.drop rfl rfl rfl ⟨rfl, congrArg AV.bool (decide_eq_true ?_), rfl⟩
      show (X.to : Int) + (((aheadL c).length : Nat) : Int) = ((X.to + (aheadL c).length : Nat) : Int)
      omega
    · obtain ⟨g1, g2⟩ := f3 he
      conv => whnf
      repeat' (first
        | (refine And.intro ?_ ?_; (focus (first | omega | decide | (unfold inI64; omega) | (simp only [List.length_append, List.length_cons, List.length_nil] <;> omega) | (refine ⟨?_, ?_⟩ <;> omega) | (simp <;> omega) | (unfold inI64; simp only [List.length_append, List.length_cons, List.length_nil] <;> omega))); conv => whnf)
        | (refine brD (fun _ => ?_) (fun _ => ?_) <;> conv => whnf)
        | (refine brB (fun _ => ?_) (fun _ => ?_) <;> conv => whnf)
        | (refine CallG.e (hn1) ?_; conv => whnf)
        | (refine CallG.e (hn2) ?_; conv => whnf))
      all_goals try (exfalso; omega)
      all_goals try contradiction
      all_goals first
        | (exfalso; dsimp only at *; omega)
        | exact RetG.drop rfl rfl rfl ⟨rfl, by simp [g1], rfl⟩
end Ink.D

namespace Ink.D
open Go Go.Proofs
set_option maxRecDepth 100000
set_option linter.unusedSimpArgs false

/-! there and back: texts -/
theorem escL_let (d : UInt8) (t : List UInt8) (h1 : isOct d = false) (h2 : d ≠ 13) : escL (d :: t) = (escC d, 1) := by
  have : octalL (d :: t) = (0, 0) := by simp [octalL, octG, h1]
  have h3 : List.isPrefixOf [13, 10] (d :: t) = false := by
    simp only [List.isPrefixOf]
    have : ((13 : UInt8) == d) = false := by simpa using Ne.symm h2
    rw [this]; rfl
  simp [escL, this, h3]

theorem escL_oct (a b c : UInt8) (t : List UInt8) (h1 : isOct a = true) (h2 : isOct b = true) (h3 : isOct c = true) : escL (a :: b :: c :: t) = ([UInt8.ofNat (((a.toNat - 48) * 8 + (b.toNat - 48)) * 8 + (c.toNat - 48))], 3) := by
  have : octalL (a :: b :: c :: t) = (((a.toNat - 48) * 8 + (b.toNat - 48)) * 8 + (c.toNat - 48), 3) := by simp [octalL, octG, h1, h2, h3]
  simp [escL, this]

/-- the four shapes of a byte of a text -/
theorem quoteC_cases (c : UInt8) : (∃ d, quoteC c = [92, d] ∧ isOct d = false ∧ d ≠ 13 ∧ escC d = [c]) ∨
    (∃ x y z, quoteC c = [92, x, y, z] ∧ isOct x = true ∧ isOct y = true ∧ isOct z = true ∧ UInt8.ofNat (((x.toNat - 48) * 8 + (y.toNat - 48)) * 8 + (z.toNat - 48)) = c) ∨
    (quoteC c = [c] ∧ c ≠ 92 ∧ c ≠ 40 ∧ c ≠ 41 ∧ c ≠ 13) := by
  have key : ∀ c : UInt8, (if quoteC c = [c] then decide (c ≠ 92 ∧ c ≠ 40 ∧ c ≠ 41 ∧ c ≠ 13) else match quoteC c with
      | [e, d] => decide (e = 92 ∧ isOct d = false ∧ d ≠ 13 ∧ escC d = [c])
      | [e, x, y, z] => decide (e = 92 ∧ isOct x = true ∧ isOct y = true ∧ isOct z = true ∧ UInt8.ofNat (((x.toNat - 48) * 8 + (y.toNat - 48)) * 8 + (z.toNat - 48)) = c)
      | _ => false) = true := by
    intro c
    revert c
    refine u8all ?_
    decide +kernel
  have := key c
  split at this
  · rename_i h
    exact .inr (.inr ⟨h, of_decide_eq_true this⟩)
  · split at this
    · rename_i e d h
      obtain ⟨rfl, h1⟩ := of_decide_eq_true this
      exact .inl ⟨d, h, h1⟩
    · rename_i e x y z h
      obtain ⟨rfl, h1⟩ := of_decide_eq_true this
      exact .inr (.inl ⟨x, y, z, h, h1⟩)
    · cases this

theorem textL_quoteC (c : UInt8) (t : List UInt8) : textL (quoteC c ++ t) 0 = (textL t 0).map fun x => (c :: x.1, (quoteC c).length + x.2) := by
  rcases quoteC_cases c with ⟨d, h, h1, h2, h3⟩ | ⟨x, y, z, h, h1, h2, h3, h4⟩ | ⟨h, h1, h2, h3, h4⟩
  · rw [h]
    simp only [List.cons_append, List.nil_append]
    rw [textL_cons, escL_let d t h1 h2, h3]
    simp
  · rw [h]
    simp only [List.cons_append, List.nil_append]
    rw [textL_cons, escL_oct x y z t h1 h2 h3, h4]
    simp
  · rw [h]
    simp only [List.cons_append, List.nil_append]
    rw [textL_cons]
    simp [h1, h2, h3, h4]

theorem textL_quote (s t : List UInt8) : textL ((s.map quoteC).flatten ++ t) 0 = (textL t 0).map fun x => (s ++ x.1, ((s.map quoteC).flatten).length + x.2) := by
  induction s with
  | nil => simp
  | cons c r ih =>
    simp only [List.map_cons, List.flatten_cons, List.append_assoc]
    rw [textL_quoteC, ih, Option.map_map]
    congr 1
    funext x
    simp [Function.comp_def]; omega

theorem nextL_tok (c : UInt8) (t : List UInt8) (hw : isWhite c = false) (h37 : c ≠ 37) : nextL (c :: t) 0 = if (tokL (c :: t) 0).2 = 0 then tokL (c :: t) 0 else (.zero, (tokL (c :: t) 0).2) := by
  unfold nextL
  rw [if_neg (by simp; omega)]
  have : spaceL (c :: t) (Int.toNat 0) = 0 := by
    unfold spaceL
    simp [skip, hw, h37]
  dsimp only
  rw [this, if_neg (by simp)]
  rfl

theorem next_quote (s more : List UInt8) : nextL ((40 :: (s.map quoteC).flatten ++ [41]) ++ more) 0 = (⟨3, 0, s, false, 0, (40 :: (s.map quoteC).flatten ++ [41]).length⟩, 0) := by
  have e : (40 :: (s.map quoteC).flatten ++ [41]) ++ more = 40 :: ((s.map quoteC).flatten ++ (41 :: more)) := by simp
  have ht : textL ((s.map quoteC).flatten ++ (41 :: more)) 0 = some (s, ((s.map quoteC).flatten).length + 1) := by
    rw [textL_quote, textL_cons]; simp
  have : tokL (40 :: ((s.map quoteC).flatten ++ (41 :: more))) 0 = (⟨3, 0, s, false, 0, (40 :: (s.map quoteC).flatten ++ [41]).length⟩, 0) := by
    rw [tokL_cons _ _ _ rfl rfl rfl rfl]
    unfold tokR
    rw [if_neg (by decide), if_pos rfl, ht]
    simp; omega
  rw [e, nextL_tok _ _ (by decide) (by decide), this]
  rfl

/-! names -/
theorem nameC_cases (c : UInt8) : (nameC c = [c] ∧ isReg c = true ∧ c ≠ 35) ∨ (∃ x y, nameC c = [35, x, y] ∧ isReg x = true ∧ isReg y = true ∧ octV [x, y] = some c) := by
  have key : ∀ c : UInt8, (if nameC c = [c] then decide (isReg c = true ∧ c ≠ 35) else match nameC c with
      | [e, x, y] => decide (e = 35 ∧ isReg x = true ∧ isReg y = true ∧ octV [x, y] = some c)
      | _ => false) = true := by
    intro c
    revert c
    refine u8all ?_
    decide +kernel
  have := key c
  split at this
  · rename_i h
    exact .inl ⟨h, of_decide_eq_true this⟩
  · split at this
    · rename_i e x y h
      obtain ⟨rfl, h1⟩ := of_decide_eq_true this
      exact .inr ⟨x, y, h, h1⟩
    · cases this

theorem octV_app (x y : UInt8) (t : List UInt8) : octV (x :: y :: t) = octV [x, y] := rfl

theorem name_reg (s : List UInt8) : ((s.map nameC).flatten).all isReg = true := by
  induction s with
  | nil => rfl
  | cons c r ih =>
    simp only [List.map_cons, List.flatten_cons, List.all_append, ih, Bool.and_true]
    rcases nameC_cases c with ⟨h, h1, _⟩ | ⟨x, y, h, h1, h2, _⟩
    · rw [h]; simp [h1]
    · have : isReg 35 = true := by decide
      rw [h]; simp [h1, h2, this]

theorem named_name (s : List UInt8) : namedL ((s.map nameC).flatten) = some s := by
  induction s with
  | nil => simp [namedL]
  | cons c r ih =>
    simp only [List.map_cons, List.flatten_cons]
    rcases nameC_cases c with ⟨h, _, h1⟩ | ⟨x, y, h, _, _, h1⟩
    · rw [h, List.singleton_append, namedL, if_neg h1, ih]; rfl
    · rw [h]
      simp only [List.cons_append, List.nil_append]
      rw [namedL, if_pos rfl, octV_app, h1]
      simp [ih]

theorem tw_all (p : UInt8 → Bool) (a b : List UInt8) (ha : a.all p = true) (hb : ∀ c r, b = c :: r → p c = false) : (a ++ b).takeWhile p = a := by
  induction a with
  | nil =>
    match b, hb with
    | [], _ => rfl
    | c :: r, hb => simp [hb c r rfl]
  | cons c r ih =>
    simp only [List.all_cons, Bool.and_eq_true] at ha
    rw [List.cons_append, List.takeWhile_cons_of_pos ha.1, ih ha.2]

theorem next_name (s b : List UInt8) (hb : ∀ c r, b = c :: r → isReg c = false) : nextL ((47 :: (s.map nameC).flatten) ++ b) 0 = (⟨2, 0, s, false, 0, (47 :: (s.map nameC).flatten).length⟩, 0) := by
  have htw := tw_all isReg _ b (name_reg s) hb
  have : tokL (47 :: ((s.map nameC).flatten ++ b)) 0 = (⟨2, 0, s, false, 0, (47 :: (s.map nameC).flatten).length⟩, 0) := by
    rw [tokL_cons _ _ _ rfl rfl rfl rfl]
    unfold tokR
    rw [if_pos rfl, htw, named_name]
    simp; omega
  rw [List.cons_append, nextL_tok _ _ (by decide) (by decide), this]
  rfl
end Ink.D

namespace Ink.D
open Go Go.Proofs
set_option maxRecDepth 100000
set_option linter.unusedSimpArgs false
variable {E : Env} (hE : E.P = Tryd.prog)

include hE
theorem lexBack (s more : List UInt8) (hs : s.length ≤ 9223372036854775807) (hc : more.length ≤ 9223372036854775807) : PCalls E 5 [.str s, .str more] (· = .bool true) := by
  refine p5 hE fun l => ?_
  by_cases hb : 500 < s.length ∨ 300 < more.length
  · conv => whnf
    repeat' (first
      | (refine And.intro ?_ ?_; (focus (first | omega | decide | (unfold inI64; omega) | (simp only [List.length_append, List.length_cons, List.length_nil] <;> omega) | (refine ⟨?_, ?_⟩ <;> omega) | (simp <;> omega) | (unfold inI64; simp only [List.length_append, List.length_cons, List.length_nil] <;> omega))); conv => whnf)
      | (refine brD (fun _ => ?_) (fun _ => ?_) <;> conv => whnf)
      | (refine brB (fun _ => ?_) (fun _ => ?_) <;> conv => whnf)
      | (refine CallG.e (awake hE) ?_; conv => whnf))
    all_goals first
      | exact RetG.drop rfl rfl rfl ⟨rfl, rfl, rfl⟩
      | (exfalso; omega)
  · have h1 := quote hE s (by omega)
    have h2 := nameOf hE s (by omega)
    have l1 := quoteC_len s
    have l2 := nameC_len s
    have f1 := next_quote s more
    have f2 := next_name s ([32] ++ more) (fun c r h => by cases h; decide)
    have f3 := next_name s [] (fun c r h => by cases h)
    rw [List.append_nil] at f3
    have e1 : (40 :: (s.map quoteC).flatten ++ [41]).length = ((s.map quoteC).flatten).length + 2 := by simp
    have e2 : (47 :: (s.map nameC).flatten).length = ((s.map nameC).flatten).length + 1 := by simp
    generalize (40 :: (s.map quoteC).flatten ++ [41]) = q at *
    generalize (47 :: (s.map nameC).flatten) = n at *
    have h3 := next hE (q ++ more) 0 (by simp; omega)
    have h4 := next hE ((n ++ [32]) ++ more) 0 (by simp; omega)
    have h5 := next hE n 0 (by omega)
    rw [f1] at h3
    rw [List.append_assoc, f2] at h4
    rw [← List.append_assoc] at h4
    rw [f3] at h5
    conv => whnf
    repeat' (first
      | (refine And.intro ?_ ?_; (focus (first | omega | decide | (unfold inI64; omega) | (simp only [List.length_append, List.length_cons, List.length_nil] <;> omega) | (refine ⟨?_, ?_⟩ <;> omega) | (simp <;> omega) | (unfold inI64; simp only [List.length_append, List.length_cons, List.length_nil] <;> omega))); conv => whnf)
      | (refine brD (fun _ => ?_) (fun _ => ?_) <;> conv => whnf)
      | (refine brB (fun _ => ?_) (fun _ => ?_) <;> conv => whnf)
      | (refine CallG.e (awake hE) ?_; conv => whnf)
      | (refine CallG.e (h1) ?_; conv => whnf)
      | (refine CallG.e (h2) ?_; conv => whnf)
      | (refine CallG.e (h3) ?_; conv => whnf)
      | (refine CallG.e (h4) ?_; conv => whnf)
      | (refine CallG.e (h5) ?_; conv => whnf))
    all_goals try (exfalso; omega)
    all_goals try contradiction
    all_goals exact RetG.drop rfl rfl rfl ⟨rfl, congrArg AV.bool (decide_eq_true rfl), rfl⟩

omit hE in
/-- so many parentheses around -/
def wrapL : Nat → List UInt8 → List UInt8
  | 0, s => s
  | k + 1, s => 40 :: (wrapL k s ++ [41])

omit hE in
theorem wrapL_len (k : Nat) (s : List UInt8) : (wrapL k s).length = s.length + 2 * k := by
  induction k with
  | zero => rfl
  | succ k ih => simp [wrapL, ih]; omega

omit hE in
theorem wrapL_out (k : Nat) (s : List UInt8) : [40] ++ wrapL k s ++ [41] = wrapL (k + 1) s := by simp [wrapL]

omit hE in
theorem textL_plain (s t : List UInt8) (d : Nat) (h : s.all (fun c => decide (97 ≤ c.toNat) && decide (c.toNat ≤ 122)) = true) : textL (s ++ t) d = (textL t d).map fun x => (s ++ x.1, s.length + x.2) := by
  induction s with
  | nil => simp
  | cons c r ih =>
    simp only [List.all_cons, Bool.and_eq_true, decide_eq_true_eq] at h
    have hc : ∀ n : UInt8, n.toNat < 97 → c ≠ n := fun n hn e => by subst e; omega
    rw [List.cons_append, textL_cons, if_neg (hc 92 (by decide)), if_neg (hc 40 (by decide)), if_neg (hc 41 (by decide)), if_neg (hc 13 (by decide)), ih (by simpa using h.2), Option.map_map]
    congr 1
    funext x
    simp [Function.comp_def]; omega

omit hE in
theorem textL_wrap (s : List UInt8) (h : s.all (fun c => decide (97 ≤ c.toNat) && decide (c.toNat ≤ 122)) = true) : ∀ (k : Nat) (t : List UInt8) (d : Nat), textL (wrapL k s ++ t) d = (textL t d).map fun x => (wrapL k s ++ x.1, (wrapL k s).length + x.2)
  | 0, t, d => textL_plain s t d h
  | k + 1, t, d => by
    have e : wrapL (k + 1) s ++ t = 40 :: (wrapL k s ++ (41 :: t)) := by simp [wrapL]
    rw [e, textL_cons, if_neg (by decide), if_pos rfl, textL_wrap s h k (41 :: t) (d + 1), textL_cons, if_neg (by decide), if_neg (by decide), if_pos rfl, Option.map_map, Option.map_map]
    congr 1
    funext x
    simp [Function.comp_def, wrapL]; omega

omit hE in
theorem next_open (t : List UInt8) : nextL (40 :: t) 0 = match textL t 0 with
      | some x => (⟨3, 0, x.1, false, 0, 1 + x.2⟩, 0)
      | none => (.zero, 4) := by
  have : tokR 40 t 0 = match textL t 0 with
      | some x => (⟨3, 0, x.1, false, 0, 0 + 1 + x.2⟩, 0)
      | none => (.zero, 4) := by
    unfold tokR
    rw [if_neg (by decide), if_pos rfl]
    cases textL t 0 <;> rfl
  rw [nextL_tok _ _ (by decide) (by decide), tokL_cons _ _ _ rfl rfl rfl rfl, this]
  cases textL t 0 with
  | none => rfl
  | some x => simp
end Ink.D

namespace Ink.D
open Go Go.Proofs
set_option maxRecDepth 100000
set_option linter.unusedSimpArgs false
variable {E : Env} (hE : E.P = Tryd.prog)

theorem and_mask (n : Int) (m : Nat) (hm : m < 4611686018427387904) : ∃ k : Nat, k ≤ m ∧ bits .and .i64 n m = (k : Int) := by
  refine ⟨(BitVec.ofInt 64 n &&& BitVec.ofInt 64 m).toNat, ?_, ?_⟩
  · rw [BitVec.toNat_and]
    refine Nat.le_trans Nat.and_le_right ?_
    rw [BitVec.toNat_ofInt]
    omega
  · have hle : (BitVec.ofInt 64 n &&& BitVec.ofInt 64 m).toNat ≤ m := by
      rw [BitVec.toNat_and]
      refine Nat.le_trans Nat.and_le_right ?_
      rw [BitVec.toNat_ofInt]
      omega
    show IntKind.wrap .i64 (((BitVec.ofInt 64 n &&& BitVec.ofInt 64 m).toNat : Nat) : Int) = _
    generalize (BitVec.ofInt 64 n &&& BitVec.ofInt 64 m).toNat = k at *
    simp only [IntKind.wrap, IntKind.bits, IntKind.signed]
    simp
    omega

def low (c : UInt8) : Bool := decide (97 ≤ c.toNat) && decide (c.toNat ≤ 122)

include hE
theorem lexPairs (n : Int) (s : List UInt8) (hs : s.length ≤ 9223372036854775807) : PCalls E 9 [.int .i64 n, .str s] (· = .bool true) := by
  refine p9 hE fun l => ?_
  by_cases h200 : 200 < s.length
  · conv => whnf
    repeat' (first
      | (refine And.intro ?_ ?_; (focus (first | omega | decide | (unfold inI64; omega) | (simp only [List.length_append, List.length_cons, List.length_nil] <;> omega) | (refine ⟨?_, ?_⟩ <;> omega) | (simp <;> omega) | (unfold inI64; simp only [List.length_append, List.length_cons, List.length_nil] <;> omega))); conv => whnf)
      | (refine brD (fun _ => ?_) (fun _ => ?_) <;> conv => whnf)
      | (refine brB (fun _ => ?_) (fun _ => ?_) <;> conv => whnf)
      | (refine CallG.e (awake hE) ?_; conv => whnf))
    all_goals first
      | exact RetG.drop rfl rfl rfl ⟨rfl, rfl, rfl⟩
      | (exfalso; omega)
  conv => whnf
  repeat' (first
    | (refine And.intro ?_ ?_; (focus (first | omega | decide | (unfold inI64; omega) | (simp only [List.length_append, List.length_cons, List.length_nil] <;> omega) | (refine ⟨?_, ?_⟩ <;> omega) | (simp <;> omega) | (unfold inI64; simp only [List.length_append, List.length_cons, List.length_nil] <;> omega))); conv => whnf)
    | (refine brD (fun _ => ?_) (fun _ => ?_) <;> conv => whnf)
    | (refine brB (fun _ => ?_) (fun _ => ?_) <;> conv => whnf)
    | (refine CallG.e (awake hE) ?_; conv => whnf))
  · omega
  refine LoopG.s (fun x : Nat => x ≤ s.length ∧ (s.take x).all low = true) 104 (fun x => [(0, .int .i64 n), (1, .str s), (4, .bool false), (5, .bool true), (6, .int .i64 x)]) (fun _ => frm l) (fun x => s.length - x) 0 ⟨by omega, rfl⟩ rfl ⟨rfl, rfl, rfl, rfl, rfl⟩ rfl ?_
  rintro x ⟨h1, h2⟩
  by_cases hx : x < s.length
  · have hg := getD_at s x hx
    conv => whnf
    repeat' (first
      | (refine And.intro ?_ ?_; (focus (first | omega | decide | (unfold inI64; omega) | (simp only [List.length_append, List.length_cons, List.length_nil] <;> omega) | (refine ⟨?_, ?_⟩ <;> omega) | (simp <;> omega) | (unfold inI64; simp only [List.length_append, List.length_cons, List.length_nil] <;> omega))); conv => whnf)
      | (refine brD (fun _ => ?_) (fun _ => ?_) <;> conv => whnf)
      | (refine brB (fun _ => ?_) (fun _ => ?_) <;> conv => whnf))
    all_goals try (exact RetG.drop rfl rfl rfl ⟨rfl, rfl, rfl⟩)
    all_goals try (exfalso; omega)
    rename_i a b
    rw [hg] at a b
    refine ⟨x + 1, ⟨⟨by omega, ?_⟩, by omega⟩, Wk.slots rfl ⟨rfl, rfl, rfl, rfl, rfl⟩⟩
    rw [List.take_succ_eq_append_getElem hx, List.all_append, h2]
    simp [low]; omega
  · have : x = s.length := by omega
    subst this
    rw [List.take_length] at h2
    obtain ⟨k, hk, hkn⟩ := and_mask n 31 (by decide)
    conv => whnf
    repeat' (first
      | (refine And.intro ?_ ?_; (focus (first | omega | decide | (unfold inI64; omega) | (simp only [List.length_append, List.length_cons, List.length_nil] <;> omega) | (refine ⟨?_, ?_⟩ <;> omega) | (simp <;> omega) | (unfold inI64; simp only [List.length_append, List.length_cons, List.length_nil] <;> omega))); conv => whnf)
      | (refine brD (fun _ => ?_) (fun _ => ?_) <;> conv => whnf)
      | (refine brB (fun _ => ?_) (fun _ => ?_) <;> conv => whnf))
    · exfalso; omega
    · exfalso; omega
    · exfalso; omega
    rw [show bits .and .i64 n 31 = (k : Int) from hkn]
    refine LoopG.s (fun x : Nat => x ≤ k) 104 (fun x => [(0, .int .i64 n), (1, .str s), (4, .bool false), (5, .bool true), (7, .int .i64 k), (8, .str (wrapL x s)), (9, .int .i64 x)]) (fun _ => frm l) (fun x => k - x) 0 (by omega) rfl ⟨rfl, rfl, rfl, rfl, rfl, rfl, rfl⟩ rfl ?_
    intro x hx
    have hwl := wrapL_len x s
    by_cases hxk : x < k
    · conv => whnf
      repeat' (first
        | (refine And.intro ?_ ?_; (focus (first | omega | decide | (unfold inI64; omega) | (simp only [List.length_append, List.length_cons, List.length_nil] <;> omega) | (refine ⟨?_, ?_⟩ <;> omega) | (simp <;> omega) | (unfold inI64; simp only [List.length_append, List.length_cons, List.length_nil] <;> omega))); conv => whnf)
        | (refine brD (fun _ => ?_) (fun _ => ?_) <;> conv => whnf)
        | (refine brB (fun _ => ?_) (fun _ => ?_) <;> conv => whnf))
      · refine ⟨x + 1, ⟨by omega, by omega⟩, Wk.slots rfl ⟨rfl, rfl, rfl, rfl, rfl, ?_, rfl⟩⟩
        rw [← wrapL_out]; rfl
      · exfalso; omega
    · have : x = k := by omega
      subst this
      have f1 : nextL ([40] ++ wrapL x s ++ [41, 114, 101, 115, 116]) 0 = (⟨3, 0, wrapL x s, false, 0, (wrapL x s).length + 2⟩, 0) := by
        have e : [40] ++ wrapL x s ++ [41, 114, 101, 115, 116] = 40 :: (wrapL x s ++ (41 :: [114, 101, 115, 116])) := by simp
        rw [e, next_open, textL_wrap s h2, textL_cons]
        simp; omega
      have f2 : nextL ([40, 40] ++ wrapL x s ++ [41]) 0 = (.zero, 4) := by
        have e : [40, 40] ++ wrapL x s ++ [41] = 40 :: (wrapL (x + 1) s ++ []) := by simp [wrapL]
        rw [e, next_open, textL_wrap s h2, textL_nil]; rfl
      have f3 : nextL ([40] ++ wrapL x s ++ [41, 41]) 0 = (⟨3, 0, wrapL x s, false, 0, (wrapL x s).length + 2⟩, 0) := by
        have e : [40] ++ wrapL x s ++ [41, 41] = 40 :: (wrapL x s ++ (41 :: [41])) := by simp
        rw [e, next_open, textL_wrap s h2, textL_cons]
        simp; omega
      generalize wrapL x s = w at *
      have n1 := next hE ([40] ++ w ++ [41, 114, 101, 115, 116]) 0 (by simp; omega)
      have n2 := next hE ([40, 40] ++ w ++ [41]) 0 (by simp; omega)
      have n3 := next hE ([40] ++ w ++ [41, 41]) 0 (by simp; omega)
      rw [f1] at n1
      rw [f2] at n2
      rw [f3] at n3
      conv => whnf
      repeat' (first
        | (refine And.intro ?_ ?_; (focus (first | omega | decide | (unfold inI64; omega) | (simp only [List.length_append, List.length_cons, List.length_nil] <;> omega) | (refine ⟨?_, ?_⟩ <;> omega) | (simp <;> omega) | (unfold inI64; simp only [List.length_append, List.length_cons, List.length_nil] <;> omega))); conv => whnf)
        | (refine brD (fun _ => ?_) (fun _ => ?_) <;> conv => whnf)
        | (refine brB (fun _ => ?_) (fun _ => ?_) <;> conv => whnf)
        | (refine CallG.e (n1) ?_; conv => whnf)
        | (refine CallG.e (n2) ?_; conv => whnf)
        | (refine CallG.e (n3) ?_; conv => whnf))
      all_goals try (exfalso; omega)
      all_goals try contradiction
      all_goals trace_state
      all_goals exact RetG.drop rfl rfl rfl ⟨rfl, congrArg AV.bool (decide_eq_true rfl), rfl⟩
end Ink.D

namespace Ink.D
open Go Go.Proofs
set_option maxRecDepth 100000
set_option linter.unusedSimpArgs false
variable {E : Env} (hE : E.P = Tryd.prog)

/-- bytes as a slice that nobody changes -/
def bAV (b : List UInt8) : List (List AV) := b.map fun c => [.int .u8 (c.toNat : Int)]
theorem bAV_len (b : List UInt8) : (bAV b).length = b.length := by simp [bAV]
theorem bAV_flat (b : List UInt8) : (bAV b).flatten = bytesAV b := by
  induction b with
  | nil => rfl
  | cons c r ih => simp only [bAV, List.map_cons, List.flatten_cons] at *; rw [ih]; rfl
theorem bAV_at (b : List UInt8) (k : Nat) (h : k < b.length) : (bAV b).getD k [] = [.int .u8 (b[k].toNat : Int)] := by simp [bAV, h]
theorem bAV_take (b : List UInt8) (k : Nat) : (bAV b).take k = bAV (b.take k) := by simp [bAV]
theorem bAV_hb (b : List UInt8) : hbLL 0 (bAV b) = true := by
  rw [hbLL_iff]
  intro x hx y hy
  obtain ⟨f, _, rfl⟩ := List.mem_map.mp hx
  simp at hy; subst hy; rfl

def hexT (g : Bool) : List UInt8 := if g then [48, 49, 50, 51, 52, 53, 54, 55, 56, 57, 65, 66, 67, 68, 69, 70] else [48, 49, 50, 51, 52, 53, 54, 55, 56, 57, 97, 98, 99, 100, 101, 102]
def hexB (g : Bool) (c : UInt8) : List UInt8 := [(hexT g).getD (c >>> 4).toNat 0, (hexT g).getD (c &&& 15).toNat 0]
def nib (c : UInt8) : List UInt8 := [c >>> 4, c &&& 15]

theorem hexN_hex (g : Bool) (c : UInt8) : hexN ((hexT g).getD (c >>> 4).toNat 0) = some (c >>> 4) ∧ hexN ((hexT g).getD (c &&& 15).toNat 0) = some (c &&& 15) ∧ (hexT g).getD (c >>> 4).toNat 0 ≠ 60 := by
  cases g
  · revert c
    refine u8all ?_
    decide +kernel
  · revert c
    refine u8all ?_
    decide +kernel

theorem nib_join (c : UInt8) : ((c >>> 4) <<< 4 ||| (c &&& 15)) = c ∧ (c >>> 4) <<< 4 = c &&& 240 := by
  revert c
  refine u8all ?_
  decide +kernel

theorem digsL_hex1 (d v : UInt8) (t : List UInt8) (h : hexN d = some v) : digsL (d :: t) = (digsL t).map fun x => (v :: x.1, 1 + x.2) := by
  rw [digsL, h]

theorem digsL_hex (g : Bool) (b t : List UInt8) : digsL ((b.map (hexB g)).flatten ++ t) = (digsL t).map fun x => ((b.map nib).flatten ++ x.1, 2 * b.length + x.2) := by
  induction b with
  | nil => cases hq : digsL t <;> simp [Except.map, hq]
  | cons c r ih =>
    obtain ⟨h1, h2, _⟩ := hexN_hex g c
    simp only [List.map_cons, List.flatten_cons, hexB, List.cons_append, List.nil_append]
    rw [digsL_hex1 _ _ _ h1, digsL_hex1 _ _ _ h2]
    rw [show (List.map (hexB g) r).flatten ++ t = (List.map (hexB g) r).flatten ++ t from rfl, ih]
    cases digsL t with
    | error e => rfl
    | ok x => simp [Except.map, nib]; omega

theorem pairL_nib (b t : List UInt8) : pairL ((b.map nib).flatten ++ t) = b ++ pairL t := by
  induction b with
  | nil => rfl
  | cons c r ih =>
    simp only [List.map_cons, List.flatten_cons, nib, List.cons_append, List.nil_append]
    rw [pairL, ih, (nib_join c).1]

theorem next_lt (d : UInt8) (t : List UInt8) (h : d ≠ 60) : nextL (60 :: d :: t) 0 = match digsL (d :: t) with
      | .ok x => (⟨3, 0, pairL x.1, false, 0, 1 + x.2⟩, 0)
      | .error e => (.zero, e) := by
  have hp : List.isPrefixOf [60, 60] (60 :: d :: t) = false := by
    have : ((60 : UInt8) == d) = false := by simpa using Ne.symm h
    simp [List.isPrefixOf, this]
  have : tokR 60 (d :: t) 0 = match digsL (d :: t) with
      | .ok x => (⟨3, 0, pairL x.1, false, 0, 0 + 1 + x.2⟩, 0)
      | .error e => (.zero, e) := by
    unfold tokR
    rw [if_neg (by decide), if_neg (by decide), if_pos rfl]
    cases digsL (d :: t) <;> rfl
  rw [nextL_tok _ _ (by decide) (by decide), tokL_cons _ _ _ rfl rfl hp rfl, this]
  cases hd : digsL (d :: t) with
  | error e =>
    have := digsL_err _ _ hd
    rw [if_neg (by simp; omega)]
  | ok x => simp

def hexS (g : Bool) (b : List UInt8) : List UInt8 := 60 :: (b.map (hexB g)).flatten
theorem hexS_len (g : Bool) (b : List UInt8) : (hexS g b).length = 2 * b.length + 1 := by
  unfold hexS
  induction b with
  | nil => rfl
  | cons c r ih =>
    simp only [List.map_cons, List.flatten_cons, List.length_cons, List.length_append] at *
    have : (hexB g c).length = 2 := rfl
    omega
theorem hexS_snoc (g : Bool) (b : List UInt8) (c : UInt8) : hexS g (b ++ [c]) = hexS g b ++ hexB g c := by simp [hexS]

theorem next_hex (g : Bool) (b : List UInt8) (hb : b ≠ []) : nextL (hexS g b ++ [62]) 0 = (⟨3, 0, b, false, 0, (hexS g b).length + 1⟩, 0) := by
  have hl := hexS_len g b
  have hd := digsL_hex g b [62]
  have h62 : digsL [62] = .ok ([], 1) := rfl
  rw [h62] at hd
  have hp := pairL_nib b []
  simp only [pairL, List.append_nil] at hp
  rw [hl]
  have e : hexS g b ++ [62] = 60 :: ((b.map (hexB g)).flatten ++ [62]) := rfl
  rw [e]
  have key : ∀ L : List UInt8, (b.map (hexB g)).flatten ++ [62] = L → (∃ d t, L = d :: t ∧ d ≠ 60) := by
    intro L hL
    subst hL
    match b, hb with
    | c :: r, _ => exact ⟨_, _, rfl, (hexN_hex g c).2.2⟩
  obtain ⟨d, t, hL, hne⟩ := key _ rfl
  rw [hL] at hd ⊢
  rw [next_lt d t hne, hd]
  simp only [Except.map, List.append_nil, hp]
  simp; omega

theorem next_hex2 (g : Bool) (i : List UInt8) (z : UInt8) : nextL ((hexS g i ++ [(hexT g).getD (z >>> 4).toNat 0]) ++ [62]) 0 = (⟨3, 0, i ++ [z &&& 240], false, 0, (hexS g i).length + 2⟩, 0) := by
  have hl := hexS_len g i
  have hz := hexN_hex g z
  have hd := digsL_hex g i ([(hexT g).getD (z >>> 4).toNat 0] ++ [62])
  have h62 : digsL ([(hexT g).getD (z >>> 4).toNat 0] ++ [62]) = .ok ([z >>> 4], 2) := by
    rw [List.singleton_append, digsL_hex1 _ _ _ hz.1]; rfl
  rw [h62] at hd
  have hp := pairL_nib i [z >>> 4]
  have hp1 : pairL [z >>> 4] = [z &&& 240] := by simp [pairL, (nib_join z).2]
  rw [hp1] at hp
  rw [hl]
  have e : (hexS g i ++ [(hexT g).getD (z >>> 4).toNat 0]) ++ ([62] : List UInt8) = (60 : UInt8) :: ((i.map (hexB g)).flatten ++ ([(hexT g).getD (z >>> 4).toNat 0] ++ ([62] : List UInt8))) := by simp [hexS]
  rw [e]
  have key : ∀ L : List UInt8, (i.map (hexB g)).flatten ++ ([(hexT g).getD (z >>> 4).toNat 0] ++ [62]) = L → (∃ d t, L = d :: t ∧ d ≠ 60) := by
    intro L hL
    subst hL
    match i with
    | [] => exact ⟨_, _, rfl, hz.2.2⟩
    | c :: r => exact ⟨_, _, rfl, (hexN_hex g c).2.2⟩
  obtain ⟨d, t, hL, hne⟩ := key _ rfl
  rw [hL] at hd ⊢
  rw [next_lt d t hne, hd]
  simp only [Except.map, hp]
  simp; omega

theorem un_bAV (b : List UInt8) : unAV (bAV b).flatten = b := by rw [bAV_flat, unAV_bytes]
theorem ok_bAV (b : List UInt8) : 1 = 1 ∧ (bAV b).flatten = bytesAV (unAV (bAV b).flatten) := ⟨rfl, by rw [bAV_flat, unAV_bytes]⟩

theorem un_one (w : UInt8) : unAV [[AV.int .u8 (w.toNat : Int)]].flatten = [w] := by
  show unAV (bytesAV [w]) = _
  rw [unAV_bytes]
theorem ok_one (w : UInt8) : 0 + 1 = 1 ∧ [[AV.int .u8 (w.toNat : Int)]].flatten = bytesAV (unAV [[AV.int .u8 (w.toNat : Int)]].flatten) := ⟨rfl, by
  show bytesAV [w] = bytesAV (unAV (bytesAV [w]))
  rw [unAV_bytes]⟩

theorem quo16 (c : UInt8) : IntKind.wrap .u8 ((c.toNat : Int).tdiv 16) = ((c >>> 4).toNat : Int) ∧ IntKind.wrap .u8 (((c >>> 4).toNat : Int) + 1) = ((c >>> 4).toNat : Int) + 1 ∧ (c >>> 4).toNat < 16 := by
  revert c
  refine u8all ?_
  decide +kernel
theorem rem16 (c : UInt8) : (c.toNat : Int).tmod 16 = ((c &&& 15).toNat : Int) ∧ IntKind.wrap .u8 (((c &&& 15).toNat : Int) + 1) = ((c &&& 15).toNat : Int) + 1 ∧ (c &&& 15).toNat < 16 := by
  revert c
  refine u8all ?_
  decide +kernel
theorem and240_u8 (a : UInt8) : bits .and .u8 (a.toNat : Int) 240 = ((a &&& 240).toNat : Int) := by
  revert a
  refine u8all ?_
  decide +kernel
theorem hexT_len (g : Bool) : (hexT g).length = 16 := by cases g <;> rfl
theorem slice1 (l : List UInt8) (n : Nat) (h : n < l.length) : (l.drop ((n : Nat) : Int).toNat).take ((((n : Nat) : Int) + 1).toNat - ((n : Nat) : Int).toNat) = [l.getD n 0] := by
  have e1 : ((n : Nat) : Int).toNat = n := Int.toNat_natCast n
  have e2 : (((n : Nat) : Int) + 1).toNat = n + 1 := by omega
  have e3 : n + 1 - n = 1 := by omega
  rw [e1, e2, e3, List.drop_eq_getElem_cons h, List.take_succ_cons, List.take_zero]
  simp [h]

include hE
theorem lexHex (b : List UInt8) (g : Bool) (hs : b.length ≤ 9223372036854775807) : PCalls E 8 [.imm 1 (bAV b), .bool g] (· = .bool true) := by
  have hbl := bAV_len b
  refine p8 hE (fun l => ?_) (by simp only [hbL, hb, bAV_hb, Bool.and_true])
  by_cases h300 : b.length = 0 ∨ 300 < b.length
  · cases g
    all_goals
      conv => whnf
      repeat' (first
        | (refine And.intro ?_ ?_; (focus (first | omega | decide | (unfold inI64; omega) | (simp only [List.length_append, List.length_cons, List.length_nil] <;> omega) | (refine ⟨?_, ?_⟩ <;> omega) | (simp <;> omega) | (unfold inI64; simp only [List.length_append, List.length_cons, List.length_nil] <;> omega))); conv => whnf)
        | (refine brD (fun _ => ?_) (fun _ => ?_) <;> conv => whnf)
        | (refine brB (fun _ => ?_) (fun _ => ?_) <;> conv => whnf)
        | (refine CallG.e (awake hE) ?_; conv => whnf))
      all_goals first
        | exact RetG.drop rfl rfl rfl ⟨rfl, rfl, rfl⟩
        | (exfalso; omega)
  have hb300 : b.length ≤ 300 := by omega
  have hb0 : b ≠ [] := fun h => h300 (.inl (by rw [h]; rfl))
  cases g
  · conv => whnf
    repeat' (first
      | (refine And.intro ?_ ?_; (focus (first | omega | decide | (unfold inI64; omega) | (simp only [List.length_append, List.length_cons, List.length_nil] <;> omega) | (refine ⟨?_, ?_⟩ <;> omega) | (simp <;> omega) | (unfold inI64; simp only [List.length_append, List.length_cons, List.length_nil] <;> omega))); conv => whnf)
      | (refine brD (fun _ => ?_) (fun _ => ?_) <;> conv => whnf)
      | (refine brB (fun _ => ?_) (fun _ => ?_) <;> conv => whnf)
      | (refine CallG.e (awake hE) ?_; conv => whnf))
    all_goals try (exfalso; omega)
    refine LoopG.s (fun x : Nat => x ≤ b.length) 127 (fun x => [(0, .imm 1 (bAV b)), (1, .bool false), (4, .bool false), (5, .bool true), (6, .str (hexT false)), (7, .str (hexS false (b.take x))), (8, .int .i64 x)]) (fun _ => frm l) (fun x => b.length - x) 0 (by omega) rfl ⟨rfl, rfl, rfl, rfl, rfl, rfl, rfl⟩ rfl ?_
    intro x h1
    have hTl := hexT_len false
    by_cases hx : x < b.length
    · have hat := bAV_at b x hx
      have ex : (x : Int).toNat = x := Int.toNat_natCast x
      have hsl := hexS_len false (b.take x)
      have htl : (b.take x).length = x := by simp; omega
      have hsn := hexS_snoc false (b.take x) b[x]
      rw [← List.take_succ_eq_append_getElem hx] at hsn
      unfold hexB at hsn
      have hs1 := fun n h => slice1 (hexT false) n h
      generalize hexT false = T at *
      generalize b[x] = c at *
      obtain ⟨a1, a2, a3⟩ := quo16 c
      obtain ⟨c1, c2, c3⟩ := rem16 c
      have hat' : (bAV b).getD ((x : Nat) : Int).toNat [] = [.int .u8 (c.toNat : Int)] := by rw [ex]; exact hat
      conv => whnf
      repeat' (first
        | (refine And.intro ?_ ?_; (focus (first | omega | decide | (unfold inI64; omega) | (simp only [List.length_append, List.length_cons, List.length_nil] <;> omega) | (refine ⟨?_, ?_⟩ <;> omega) | (simp <;> omega) | (unfold inI64; simp only [List.length_append, List.length_cons, List.length_nil] <;> omega))); conv => whnf)
        | (refine brD (fun _ => ?_) (fun _ => ?_) <;> conv => whnf)
        | (refine brB (fun _ => ?_) (fun _ => ?_) <;> conv => whnf)
        | (rw [hat']; conv => whnf)
        | (rw [a1]; conv => whnf)
        | (rw [a2]; conv => whnf)
        | (rw [c1]; conv => whnf)
        | (rw [c2]; conv => whnf))
      · refine ⟨x + 1, ⟨by omega, by omega⟩, Wk.slots rfl ⟨rfl, rfl, rfl, rfl, rfl, ?_, rfl⟩⟩
        refine congrArg (fun z => some (AV.str z)) ?_
        rw [hsn, hs1 _ (by omega), hs1 _ (by omega), List.append_assoc]
        rfl
      · exfalso; omega
    · have : x = b.length := by omega
      subst this
      rw [List.take_length]
      obtain ⟨i, z, rfl⟩ : ∃ i z, b = i ++ [z] := ⟨b.dropLast, b.getLast hb0, (List.dropLast_concat_getLast hb0).symm⟩
      have f1 := next_hex false (i ++ [z]) hb0
      have f2 := next_hex2 false i z
      have hsl := hexS_len false (i ++ [z])
      have hsi := hexS_len false i
      have hsn := hexS_snoc false i z
      have n1 := next hE (hexS false (i ++ [z]) ++ [62]) 0 (by simp at hb300 ⊢; omega)
      have n2 := next hE (hexS false i ++ [(hexT false).getD (z >>> 4).toNat 0] ++ [62]) 0 (by simp at hb300 ⊢; omega)
      rw [f1] at n1
      rw [f2] at n2
      have hs2 : hexS false (i ++ [z]) = (hexS false i ++ [(hexT false).getD (z >>> 4).toNat 0]) ++ [(hexT false).getD (z &&& 15).toNat 0] := by rw [hsn]; simp [hexB]
      have hd : (hexS false (i ++ [z])).take (((hexS false (i ++ [z])).length : Int) - 1).toNat = hexS false i ++ [(hexT false).getD (z >>> 4).toNat 0] := by
        have e : (((hexS false (i ++ [z])).length : Int) - 1).toNat = (hexS false i).length + 1 := by rw [hs2]; simp; omega
        rw [e, hs2]
        exact List.take_left' (by simp)
      have el : (((bAV (i ++ [z])).length : Int) - 1).toNat = i.length := by simp [bAV]
      have hbi : (bAV (i ++ [z])).take (((bAV (i ++ [z])).length : Int) - 1).toNat = bAV i := by
        rw [el, bAV_take]
        exact congrArg bAV (List.take_left' rfl)
      have hbz : (bAV (i ++ [z])).getD (((bAV (i ++ [z])).length : Int) - 1).toNat [] = [.int .u8 (z.toNat : Int)] := by
        rw [el, bAV_at _ _ (by simp)]; simp
      have hlz : (i ++ [z]).length = i.length + 1 := by simp
      have h62 : ([62] : List UInt8).length = 1 := rfl
      clear hs2
      generalize hexS false (i ++ [z]) = s1 at *
      generalize hexS false i ++ [(hexT false).getD (z >>> 4).toNat 0] = s2 at *
      conv => whnf
      repeat' (first
        | (refine And.intro ?_ ?_; (focus (first | omega | decide | (unfold inI64; omega) | (simp only [List.length_append, List.length_cons, List.length_nil] <;> omega) | (refine ⟨?_, ?_⟩ <;> omega) | (simp <;> omega) | (unfold inI64; simp only [List.length_append, List.length_cons, List.length_nil] <;> omega))); conv => whnf)
        | (refine brD (fun _ => ?_) (fun _ => ?_) <;> conv => whnf)
        | (refine brB (fun _ => ?_) (fun _ => ?_) <;> conv => whnf)
        | (refine CallG.e (n1) ?_; conv => whnf)
        | (refine CallG.e (n2) ?_; conv => whnf)
        | (rw [hd]; conv => whnf)
        | (rw [hbi]; conv => whnf)
        | (rw [hbz]; conv => whnf)
        | (refine And.intro (ok_bAV _) ?_; conv => whnf)
        | (refine And.intro (ok_one _) ?_; conv => whnf)
        | (rw [un_bAV]; conv => whnf)
        | (rw [un_one]; conv => whnf)
        | (rw [and240_u8]; conv => whnf))
      all_goals try (exfalso; omega)
      · refine RetG.drop rfl rfl rfl ⟨rfl, congrArg AV.bool (decide_eq_true ?_), rfl⟩
        rfl
      · exfalso; rename_i h; exact h rfl
      · exfalso; rename_i h; exact h (un_bAV _).symm
  · conv => whnf
    repeat' (first
      | (refine And.intro ?_ ?_; (focus (first | omega | decide | (unfold inI64; omega) | (simp only [List.length_append, List.length_cons, List.length_nil] <;> omega) | (refine ⟨?_, ?_⟩ <;> omega) | (simp <;> omega) | (unfold inI64; simp only [List.length_append, List.length_cons, List.length_nil] <;> omega))); conv => whnf)
      | (refine brD (fun _ => ?_) (fun _ => ?_) <;> conv => whnf)
      | (refine brB (fun _ => ?_) (fun _ => ?_) <;> conv => whnf)
      | (refine CallG.e (awake hE) ?_; conv => whnf))
    all_goals try (exfalso; omega)
    refine LoopG.s (fun x : Nat => x ≤ b.length) 127 (fun x => [(0, .imm 1 (bAV b)), (1, .bool true), (4, .bool false), (5, .bool true), (6, .str (hexT true)), (7, .str (hexS true (b.take x))), (8, .int .i64 x)]) (fun _ => frm l) (fun x => b.length - x) 0 (by omega) rfl ⟨rfl, rfl, rfl, rfl, rfl, rfl, rfl⟩ rfl ?_
    intro x h1
    have hTl := hexT_len true
    by_cases hx : x < b.length
    · have hat := bAV_at b x hx
      have ex : (x : Int).toNat = x := Int.toNat_natCast x
      have hsl := hexS_len true (b.take x)
      have htl : (b.take x).length = x := by simp; omega
      have hsn := hexS_snoc true (b.take x) b[x]
      rw [← List.take_succ_eq_append_getElem hx] at hsn
      unfold hexB at hsn
      have hs1 := fun n h => slice1 (hexT true) n h
      generalize hexT true = T at *
      generalize b[x] = c at *
      obtain ⟨a1, a2, a3⟩ := quo16 c
      obtain ⟨c1, c2, c3⟩ := rem16 c
      have hat' : (bAV b).getD ((x : Nat) : Int).toNat [] = [.int .u8 (c.toNat : Int)] := by rw [ex]; exact hat
      conv => whnf
      repeat' (first
        | (refine And.intro ?_ ?_; (focus (first | omega | decide | (unfold inI64; omega) | (simp only [List.length_append, List.length_cons, List.length_nil] <;> omega) | (refine ⟨?_, ?_⟩ <;> omega) | (simp <;> omega) | (unfold inI64; simp only [List.length_append, List.length_cons, List.length_nil] <;> omega))); conv => whnf)
        | (refine brD (fun _ => ?_) (fun _ => ?_) <;> conv => whnf)
        | (refine brB (fun _ => ?_) (fun _ => ?_) <;> conv => whnf)
        | (rw [hat']; conv => whnf)
        | (rw [a1]; conv => whnf)
        | (rw [a2]; conv => whnf)
        | (rw [c1]; conv => whnf)
        | (rw [c2]; conv => whnf))
      · refine ⟨x + 1, ⟨by omega, by omega⟩, Wk.slots rfl ⟨rfl, rfl, rfl, rfl, rfl, ?_, rfl⟩⟩
        refine congrArg (fun z => some (AV.str z)) ?_
        rw [hsn, hs1 _ (by omega), hs1 _ (by omega), List.append_assoc]
        rfl
      · exfalso; omega
    · have : x = b.length := by omega
      subst this
      rw [List.take_length]
      obtain ⟨i, z, rfl⟩ : ∃ i z, b = i ++ [z] := ⟨b.dropLast, b.getLast hb0, (List.dropLast_concat_getLast hb0).symm⟩
      have f1 := next_hex true (i ++ [z]) hb0
      have f2 := next_hex2 true i z
      have hsl := hexS_len true (i ++ [z])
      have hsi := hexS_len true i
      have hsn := hexS_snoc true i z
      have n1 := next hE (hexS true (i ++ [z]) ++ [62]) 0 (by simp at hb300 ⊢; omega)
      have n2 := next hE (hexS true i ++ [(hexT true).getD (z >>> 4).toNat 0] ++ [62]) 0 (by simp at hb300 ⊢; omega)
      rw [f1] at n1
      rw [f2] at n2
      have hs2 : hexS true (i ++ [z]) = (hexS true i ++ [(hexT true).getD (z >>> 4).toNat 0]) ++ [(hexT true).getD (z &&& 15).toNat 0] := by rw [hsn]; simp [hexB]
      have hd : (hexS true (i ++ [z])).take (((hexS true (i ++ [z])).length : Int) - 1).toNat = hexS true i ++ [(hexT true).getD (z >>> 4).toNat 0] := by
        have e : (((hexS true (i ++ [z])).length : Int) - 1).toNat = (hexS true i).length + 1 := by rw [hs2]; simp; omega
        rw [e, hs2]
        exact List.take_left' (by simp)
      have el : (((bAV (i ++ [z])).length : Int) - 1).toNat = i.length := by simp [bAV]
      have hbi : (bAV (i ++ [z])).take (((bAV (i ++ [z])).length : Int) - 1).toNat = bAV i := by
        rw [el, bAV_take]
        exact congrArg bAV (List.take_left' rfl)
      have hbz : (bAV (i ++ [z])).getD (((bAV (i ++ [z])).length : Int) - 1).toNat [] = [.int .u8 (z.toNat : Int)] := by
        rw [el, bAV_at _ _ (by simp)]; simp
      have hlz : (i ++ [z]).length = i.length + 1 := by simp
      have h62 : ([62] : List UInt8).length = 1 := rfl
      clear hs2
      generalize hexS true (i ++ [z]) = s1 at *
      generalize hexS true i ++ [(hexT true).getD (z >>> 4).toNat 0] = s2 at *
      conv => whnf
      repeat' (first
        | (refine And.intro ?_ ?_; (focus (first | omega | decide | (unfold inI64; omega) | (simp only [List.length_append, List.length_cons, List.length_nil] <;> omega) | (refine ⟨?_, ?_⟩ <;> omega) | (simp <;> omega) | (unfold inI64; simp only [List.length_append, List.length_cons, List.length_nil] <;> omega))); conv => whnf)
        | (refine brD (fun _ => ?_) (fun _ => ?_) <;> conv => whnf)
        | (refine brB (fun _ => ?_) (fun _ => ?_) <;> conv => whnf)
        | (refine CallG.e (n1) ?_; conv => whnf)
        | (refine CallG.e (n2) ?_; conv => whnf)
        | (rw [hd]; conv => whnf)
        | (rw [hbi]; conv => whnf)
        | (rw [hbz]; conv => whnf)
        | (refine And.intro (ok_bAV _) ?_; conv => whnf)
        | (refine And.intro (ok_one _) ?_; conv => whnf)
        | (rw [un_bAV]; conv => whnf)
        | (rw [un_one]; conv => whnf)
        | (rw [and240_u8]; conv => whnf))
      all_goals try (exfalso; omega)
      · refine RetG.drop rfl rfl rfl ⟨rfl, congrArg AV.bool (decide_eq_true ?_), rfl⟩
        rfl
      · exfalso; rename_i h; exact h rfl
      · exfalso; rename_i h; exact h (un_bAV _).symm
end Ink.D

namespace Ink.D
open Go Go.Proofs
set_option maxRecDepth 100000
set_option linter.unusedSimpArgs false
variable {E : Env} (hE : E.P = Tryd.prog)

theorem octG_take : ∀ (n : Nat) (s : List UInt8) (v m : Nat), (octG n s v).2 ≤ m → octG n (s.take m) v = octG n s v
  | 0, s, v, m, _ => by simp [octG]
  | n + 1, [], v, m, _ => by simp
  | n + 1, c :: r, v, 0, h => by
    rw [octG] at h
    by_cases hc : isOct c = true
    · rw [if_pos hc] at h; simp at h
    · simp only [List.take_zero, octG, hc]; simp
  | n + 1, c :: r, v, m + 1, h => by
    rw [octG] at h
    rw [List.take_succ_cons, octG, octG]
    by_cases hc : isOct c = true
    · rw [if_pos hc] at h
      simp only at h
      rw [if_pos hc, if_pos hc, octG_take n r _ m (by omega)]
    · rw [if_neg hc, if_neg hc]

theorem escL_take (r : List UInt8) (m : Nat) (hr : r ≠ []) (h1 : 1 ≤ m) (h : (escL r).2 ≤ m) : escL (r.take m) = escL r := by
  have ho : octalL (r.take m) = octalL r := by
    refine octG_take 3 r 0 m ?_
    unfold escL at h
    simp only at h
    split at h
    · exact h
    · rename_i h0
      have : (octG 3 r 0).2 = (octalL r).2 := rfl
      omega
  match r, m, hr, h1 with
  | c :: t, m + 1, _, _ =>
    have e : (c :: t).take (m + 1) = c :: t.take m := rfl
    unfold escL at h ⊢
    simp only at h ⊢
    rw [ho]
    split
    · rfl
    · rename_i h0
      rw [if_neg h0] at h
      rw [e]
      by_cases hp : List.isPrefixOf [13, 10] (c :: t) = true
      · rw [if_pos hp] at h
        have h2 : 1 ≤ m := by simp at h; omega
        match t, m, h2 with
        | [], _, _ => simp [List.isPrefixOf] at hp
        | d :: u, m + 1, _ =>
          have : List.isPrefixOf [13, 10] (c :: (d :: u).take (m + 1)) = true := by
            simpa [List.isPrefixOf] using hp
          rw [if_pos this, if_pos hp]
      · have : ¬ List.isPrefixOf [13, 10] (c :: t.take m) = true := by
          intro hq
          apply hp
          match t, m with
          | [], _ => simp [List.isPrefixOf] at hq
          | d :: u, 0 => simp [List.isPrefixOf] at hq
          | d :: u, m + 1 => simpa [List.isPrefixOf] using hq
        rw [if_neg this, if_neg hp]

theorem textL_pos {s : List UInt8} {d : Nat} {x : List UInt8 × Nat} (h : textL s d = some x) : 1 ≤ x.2 := by
  match s with
  | [] => rw [textL_nil] at h; cases h
  | c :: r =>
    rw [textL_cons] at h
    have one : ∀ {o : Option (List UInt8 × Nat)} {a : List UInt8} {k : Nat}, 1 ≤ k → (o.map fun x => (a ++ x.1, k + x.2)) = some x → 1 ≤ x.2 := by
      intro o a k hk h
      obtain ⟨y, _, rfl⟩ := Option.map_eq_some_iff.mp h
      simp; omega
    have one' : ∀ {o : Option (List UInt8 × Nat)} {a : UInt8}, (o.map fun x => (a :: x.1, 1 + x.2)) = some x → 1 ≤ x.2 := fun h => one (a := [_]) (k := 1) (by omega) h
    have one0 : ∀ {o : Option (List UInt8 × Nat)}, (o.map fun x => (x.1, 1 + x.2)) = some x → 1 ≤ x.2 := fun h => one (a := []) (k := 1) (by omega) h
    repeat' split at h
    all_goals first
      | (cases h; done)
      | (cases h; simp; done)
      | exact one (by omega) h
      | exact one' h
      | exact one0 h

theorem textL_take : ∀ (n : Nat) (s : List UInt8) (d : Nat) (x : List UInt8 × Nat), s.length ≤ n → textL s d = some x → textL (s.take x.2) d = some x
  | 0, s, d, x, hn, h => by
    have : s = [] := List.eq_nil_of_length_eq_zero (by omega)
    subst this; rw [textL_nil] at h; cases h
  | n + 1, [], d, x, hn, h => by rw [textL_nil] at h; cases h
  | n + 1, c :: r, d, x, hn, h => by
    simp only [List.length_cons] at hn
    have hpos := textL_pos h
    obtain ⟨m, hm⟩ : ∃ m, x.2 = m + 1 := ⟨x.2 - 1, by omega⟩
    rw [hm, List.take_succ_cons, textL_cons]
    rw [textL_cons] at h
    have one : ∀ (d' : Nat) (a : List UInt8), ((textL r d').map fun x => (a ++ x.1, 1 + x.2)) = some x → ((textL (r.take m) d').map fun x => (a ++ x.1, 1 + x.2)) = some x := by
      intro d' a h
      obtain ⟨y, hy, rfl⟩ := Option.map_eq_some_iff.mp h
      have hm : y.2 = m := by simp at hm; omega
      have := textL_take n r d' y (by omega) hy
      rw [hm] at this
      rw [this]; rfl
    by_cases h92 : c = 92
    · rw [if_pos h92] at h ⊢
      by_cases hr : r = []
      · rw [if_pos hr] at h; cases h
      · rw [if_neg hr] at h
        obtain ⟨y, hy, rfl⟩ := Option.map_eq_some_iff.mp h
        have hl := escL_le r hr
        have hm : (escL r).2 + y.2 = m := by simp at hm; omega
        have hy1 := textL_pos hy
        have hne : ¬ r.take m = [] := by simp [hr]; omega
        rw [if_neg hne, escL_take r m hr (by omega) (by omega), List.drop_take]
        have := textL_take n (r.drop (escL r).2) d y (by simp; omega) hy
        have e : m - (escL r).2 = y.2 := by omega
        rw [e, this]; rfl
    · rw [if_neg h92] at h ⊢
      by_cases h40 : c = 40
      · rw [if_pos h40] at h ⊢; exact one (d + 1) [c] h
      · rw [if_neg h40] at h ⊢
        by_cases h41 : c = 41
        · rw [if_pos h41] at h ⊢
          cases d with
          | zero => exact h
          | succ d => exact one d [c] h
        · rw [if_neg h41] at h ⊢
          by_cases h13 : c = 13
          · rw [if_pos h13] at h ⊢
            have hr : 1 ≤ m := by
              split at h
              · obtain ⟨y, hy, rfl⟩ := Option.map_eq_some_iff.mp h
                have := textL_pos hy
                simp at hm; omega
              · obtain ⟨y, hy, rfl⟩ := Option.map_eq_some_iff.mp h
                have := textL_pos hy
                simp at hm; omega
            have hp : List.isPrefixOf [13, 10] (c :: r.take m) = List.isPrefixOf [13, 10] (c :: r) := by
              match r, m, hr with
              | [], _, _ => simp
              | e :: u, m + 1, _ => simp [List.isPrefixOf]
            rw [hp]
            split
            · rename_i hq
              rw [if_pos hq] at h
              exact one d [] h
            · rename_i hq
              rw [if_neg hq] at h
              exact one d [10] h
          · rw [if_neg h13] at h ⊢; exact one d [c] h

theorem digsL_take : ∀ (t : List UInt8) (x : List UInt8 × Nat), digsL t = .ok x → 1 ≤ x.2 ∧ digsL (t.take x.2) = .ok x
  | [], x, h => by simp [digsL] at h
  | c :: r, x, h => by
    have ih := digsL_take r
    unfold digsL at h
    split at h
    · rename_i v hv
      cases hr : digsL r with
      | error e' => rw [hr] at h; simp [Except.map] at h
      | ok y =>
        rw [hr] at h; simp [Except.map] at h; subst h
        have := (ih y hr).2
        refine ⟨by simp, ?_⟩
        rw [show (1 + y.2) = y.2 + 1 by omega, List.take_succ_cons, digsL, hv]
        simp [this, Except.map]; omega
    · rename_i hv
      split at h
      · rename_i h62
        cases h
        refine ⟨by simp, ?_⟩
        have e : (c :: r).take 1 = [c] := rfl
        rw [e, digsL, hv]
        exact if_pos h62
      · rename_i h62
        split at h
        · rename_i hw
          cases hr : digsL r with
          | error e' => rw [hr] at h; simp [Except.map] at h
          | ok y =>
            rw [hr] at h; simp [Except.map] at h; subst h
            have := (ih y hr).2
            refine ⟨by simp, ?_⟩
            rw [show (1 + y.2) = y.2 + 1 by omega, List.take_succ_cons, digsL, hv]
            simp [this, Except.map, h62, hw]; omega
        · cases h

theorem tw_tw (p : UInt8 → Bool) (s : List UInt8) : (s.takeWhile p).takeWhile p = s.takeWhile p := by
  induction s with
  | nil => rfl
  | cons c r ih =>
    by_cases h : p c = true
    · rw [List.takeWhile_cons_of_pos h, List.takeWhile_cons_of_pos h, ih]
    · rw [List.takeWhile_cons_of_neg h]; rfl

theorem pre1 (a c : UInt8) (t u : List UInt8) : List.isPrefixOf [a] (c :: t) = List.isPrefixOf [a] (c :: u) := by simp [List.isPrefixOf]

/-- a token read alone is the same -/
theorem tokL_take (r : List UInt8) (t : Tok) (hr : r ≠ []) (hw : ∀ c, r.head? = some c → isWhite c = false) (h : tokL r 0 = (t, 0)) : t.from_ = 0 ∧ 1 ≤ t.to ∧ tokL (r.take t.to) 0 = (t, 0) ∧ t.kind ≠ 0 := by
  match r, hr with
  | c :: u, _ =>
    have hw := hw c rfl
    by_cases p1 : List.isPrefixOf [91] (c :: u) = true
    · have e : tokL (c :: u) 0 = (⟨4, 0, [], false, 0, 1⟩, 0) := by unfold tokL; rw [if_pos p1]
      rw [e] at h; cases h
      refine ⟨rfl, Nat.le_refl _, ?_, by decide⟩
      unfold tokL
      rw [if_pos (by simpa [List.isPrefixOf] using p1)]
    by_cases p2 : List.isPrefixOf [93] (c :: u) = true
    · have e : tokL (c :: u) 0 = (⟨5, 0, [], false, 0, 1⟩, 0) := by unfold tokL; rw [if_neg p1, if_pos p2]
      rw [e] at h; cases h
      refine ⟨rfl, Nat.le_refl _, ?_, by decide⟩
      unfold tokL
      rw [if_neg (by simpa [List.isPrefixOf] using p1), if_pos (by simpa [List.isPrefixOf] using p2)]
    have two : ∀ a b : UInt8, List.isPrefixOf [a, b] (c :: u) = true → ∃ v, c = a ∧ u = b :: v := by
      intro a b hp
      match u with
      | [] => simp [List.isPrefixOf] at hp
      | d :: v =>
        simp [List.isPrefixOf] at hp
        exact ⟨v, hp.1.symm, by rw [hp.2]⟩
    by_cases p3 : List.isPrefixOf [60, 60] (c :: u) = true
    · have e : tokL (c :: u) 0 = (⟨6, 0, [], false, 0, 2⟩, 0) := by unfold tokL; rw [if_neg p1, if_neg p2, if_pos p3]
      rw [e] at h; cases h
      obtain ⟨v, rfl, rfl⟩ := two _ _ p3
      exact ⟨rfl, by decide, rfl, by decide⟩
    by_cases p4 : List.isPrefixOf [62, 62] (c :: u) = true
    · have e : tokL (c :: u) 0 = (⟨7, 0, [], false, 0, 2⟩, 0) := by unfold tokL; rw [if_neg p1, if_neg p2, if_neg p3, if_pos p4]
      rw [e] at h; cases h
      obtain ⟨v, rfl, rfl⟩ := two _ _ p4
      exact ⟨rfl, by decide, rfl, by decide⟩
    simp only [Bool.not_eq_true] at p1 p2 p3 p4
    rw [tokL_cons c u 0 p1 p2 p3 p4] at h
    have q1 : ∀ v, List.isPrefixOf [91] (c :: v) = false := fun v => by rw [pre1 _ _ v u]; exact p1
    have q2 : ∀ v, List.isPrefixOf [93] (c :: v) = false := fun v => by rw [pre1 _ _ v u]; exact p2
    unfold tokR at h
    by_cases h47 : c = 47
    · subst h47
      rw [if_pos rfl] at h
      split at h
      · rename_i n hn
        cases h
        refine ⟨rfl, by simp, ?_, by simp⟩
        have e : (47 :: u).take (0 + 1 + (u.takeWhile isReg).length) = 47 :: u.takeWhile isReg := by
          rw [show 0 + 1 + (u.takeWhile isReg).length = (u.takeWhile isReg).length + 1 by omega, List.take_succ_cons, take_tw]
        rw [e, tokL_cons _ _ _ rfl rfl rfl rfl]
        unfold tokR
        rw [if_pos rfl, tw_tw, hn]
      · cases h
    rw [if_neg h47] at h
    by_cases h40 : c = 40
    · subst h40
      rw [if_pos rfl] at h
      split at h
      · rename_i x hx
        cases h
        refine ⟨rfl, by simp, ?_, by simp⟩
        have e : (40 :: u).take (0 + 1 + x.2) = 40 :: u.take x.2 := by
          rw [show 0 + 1 + x.2 = x.2 + 1 by omega, List.take_succ_cons]
        rw [e, tokL_cons _ _ _ rfl rfl rfl rfl]
        unfold tokR
        rw [if_neg (by decide), if_pos rfl, textL_take _ _ _ _ (Nat.le_refl _) hx]
      · cases h
    rw [if_neg h40] at h
    by_cases h60 : c = 60
    · subst h60
      rw [if_pos rfl] at h
      split at h
      · rename_i x hx
        cases h
        obtain ⟨g1, g2⟩ := digsL_take _ _ hx
        refine ⟨rfl, by simp, ?_, by simp⟩
        have e : (60 :: u).take (0 + 1 + x.2) = 60 :: u.take x.2 := by
          rw [show 0 + 1 + x.2 = x.2 + 1 by omega, List.take_succ_cons]
        have q3 : List.isPrefixOf [60, 60] (60 :: u.take x.2) = false := by
          match u, x.2, g1 with
          | [], _, _ => simp [List.isPrefixOf]
          | d :: v, m + 1, _ => simpa [List.isPrefixOf] using p3
        rw [e, tokL_cons _ _ _ rfl rfl q3 rfl]
        unfold tokR
        rw [if_neg (by decide), if_neg (by decide), if_pos rfl, g2]
      · rename_i e he
        have := digsL_err _ _ he
        simp at h; omega
    rw [if_neg h60] at h
    by_cases hd : isDelim c = true
    · rw [if_pos hd] at h; cases h
    rw [if_neg hd] at h
    simp only [Bool.not_eq_true] at hd
    have hreg : isReg c = true := by simp [isReg, hw, hd]
    have h62 : c ≠ 62 := fun e => by rw [e] at hd; revert hd; decide
    have hlen : 1 ≤ ((c :: u).takeWhile isReg).length := by rw [List.takeWhile_cons_of_pos hreg]; simp
    have hfrom := (wordL_le (c :: u) 0).1
    have hto : (wordL (c :: u) 0).1.to = ((c :: u).takeWhile isReg).length := by
      unfold wordL; dsimp only; split <;> simp
    have hk : (wordL (c :: u) 0).1.kind ≠ 0 := by
      unfold wordL; dsimp only; split <;> simp
    rw [h] at hfrom hto hk
    dsimp only at hfrom hto hk
    refine ⟨hfrom, by omega, ?_, hk⟩
    have e : (c :: u).take t.to = c :: u.takeWhile isReg := by
      rw [hto, take_tw, List.takeWhile_cons_of_pos hreg]
    have f3 : List.isPrefixOf [60, 60] (c :: u.takeWhile isReg) = false := by
      have : ((60 : UInt8) == c) = false := by simpa using Ne.symm h60
      simp [List.isPrefixOf, this]
    have f4 : List.isPrefixOf [62, 62] (c :: u.takeWhile isReg) = false := by
      have : ((62 : UInt8) == c) = false := by simpa using Ne.symm h62
      simp [List.isPrefixOf, this]
    rw [e, tokL_cons _ _ _ (q1 _) (q2 _) f3 f4]
    unfold tokR
    rw [if_neg h47, if_neg h40, if_neg h60, if_neg (by rw [hd]; decide)]
    have e2 : c :: u.takeWhile isReg = (c :: u).takeWhile isReg := by rw [List.takeWhile_cons_of_pos hreg]
    rw [e2, ← h]
    unfold wordL
    rw [tw_tw]

/-- where a token stands, and that it is the same alone -/
theorem nextL_ends (s : List UInt8) (at_ : Int) (h0 : 0 ≤ at_) (h1 : at_ ≤ s.length) (t : Tok) (h : nextL s at_ = (t, 0)) :
    at_ ≤ (t.from_ : Int) ∧ t.from_ ≤ t.to ∧ t.to ≤ s.length ∧ (t.kind = 0 ↔ t.from_ = s.length) ∧ (t.kind = 0 ↔ t.to = t.from_) ∧
    nextL ((s.drop t.from_).take (t.to - t.from_)) 0 = (⟨t.kind, t.f, t.s, t.whole, 0, t.to - t.from_⟩, 0) := by
  have hle := nextL_le s at_
  rw [h] at hle
  unfold nextL at h
  rw [if_neg (by omega)] at h
  dsimp only at h hle
  have hsl := spaceL_le s at_.toNat (by omega)
  have hat := spaceL_at s at_.toNat
  generalize spaceL s at_.toNat = k at *
  by_cases hk : k = s.length
  · rw [if_pos hk] at h
    cases h
    subst hk
    refine ⟨by show at_ ≤ ((s.length : Nat) : Int); omega, Nat.le_refl _, Nat.le_refl _, by simp, by simp, ?_⟩
    simp only [Nat.sub_self, List.take_zero]
    decide
  · rw [if_neg hk] at h
    have hlt : k < s.length := by omega
    obtain ⟨hw, h37⟩ := hat hlt
    have hd := List.drop_eq_getElem_cons hlt
    split at h
    · rename_i hz
      have hsh := tokL_sh (s.drop k) 0 k (by rw [hd]; exact List.cons_ne_nil _ _)
      rw [Nat.zero_add] at hsh
      obtain ⟨f1, f2⟩ := hsh
      rw [hz] at f1
      have f2 := f2 f1.symm
      rw [h] at f2
      have hr0 : tokL (s.drop k) 0 = ((tokL (s.drop k) 0).1, 0) := Prod.ext rfl f1.symm
      obtain ⟨g1, g2, g3, g4⟩ := tokL_take (s.drop k) _ (by rw [hd]; exact List.cons_ne_nil _ _) (fun c hc => by rw [hd] at hc; cases (show some s[k] = some c from hc); exact hw) hr0
      generalize (tokL (s.drop k) 0).1 = u at *
      dsimp only at f2
      subst f2
      have e1 : (u.sh k).from_ = k := by simp [Tok.sh, g1]
      have e2 : (u.sh k).to = u.to + k := rfl
      have e3 : (u.sh k).kind = u.kind := rfl
      rw [e1, e2, e3]
      rw [e2] at hle
      have e4 : u.to + k - k = u.to := by omega
      rw [e4]
      refine ⟨by omega, by omega, hle.2, ⟨fun h => absurd h g4, fun h => absurd h hk⟩, ⟨fun h => absurd h g4, fun h => by omega⟩, ?_⟩
      obtain ⟨m, hm⟩ : ∃ m, u.to = m + 1 := ⟨u.to - 1, by omega⟩
      have ht : (s.drop k).take u.to = s[k] :: (s.drop (k + 1)).take m := by rw [hm, hd, List.take_succ_cons]
      rw [ht] at g3 ⊢
      rw [nextL_tok _ _ hw h37, g3]
      simp only [if_true]
      refine Prod.ext ?_ rfl
      cases u
      simp at g1
      simp [Tok.sh, g1]
    · rename_i hz
      simp at h
      exact absurd h.2 hz

include hE
theorem lexEnds (s : List UInt8) (at_ : Int) (hs : s.length ≤ 9223372036854775807) (ha : IK .i64 at_) : PCalls E 7 [.str s, .int .i64 at_] (· = .bool true) := by
  refine p7 hE fun l => ?_
  by_cases hb : 1000 < s.length
  · conv => whnf
    repeat' (first
      | (refine And.intro ?_ ?_; (focus (first | omega | decide | (unfold inI64; omega) | (simp only [List.length_append, List.length_cons, List.length_nil] <;> omega) | (refine ⟨?_, ?_⟩ <;> omega) | (simp <;> omega) | (unfold inI64; simp only [List.length_append, List.length_cons, List.length_nil] <;> omega))); conv => whnf)
      | (refine brD (fun _ => ?_) (fun _ => ?_) <;> conv => whnf)
      | (refine brB (fun _ => ?_) (fun _ => ?_) <;> conv => whnf)
      | (refine CallG.e (awake hE) ?_; conv => whnf))
    all_goals first
      | exact RetG.drop rfl rfl rfl ⟨rfl, rfl, rfl⟩
      | (exfalso; omega)
  have hn := next hE s at_ (by omega)
  by_cases hr : at_ < 0 ∨ (s.length : Int) < at_
  · have e : nextL s at_ = (.zero, 1) := by unfold nextL; rw [if_pos hr]
    rw [e] at hn
    conv => whnf
    repeat' (first
      | (refine And.intro ?_ ?_; (focus (first | omega | decide | (unfold inI64; omega) | (simp only [List.length_append, List.length_cons, List.length_nil] <;> omega) | (refine ⟨?_, ?_⟩ <;> omega) | (simp <;> omega) | (unfold inI64; simp only [List.length_append, List.length_cons, List.length_nil] <;> omega))); conv => whnf)
      | (refine brD (fun _ => ?_) (fun _ => ?_) <;> conv => whnf)
      | (refine brB (fun _ => ?_) (fun _ => ?_) <;> conv => whnf)
      | (refine CallG.e (awake hE) ?_; conv => whnf)
      | (refine CallG.e (hn) ?_; conv => whnf))
    all_goals first
      | exact RetG.drop rfl rfl rfl ⟨rfl, rfl, rfl⟩
      | (exfalso; omega)
  · have hle := nextL_le s at_
    have hen := nextL_ends s at_ (by omega) (by omega)
    generalize nextL s at_ = X at *
    obtain ⟨t, e⟩ := X
    dsimp only at hle
    by_cases he : e = 0
    · subst he
      obtain ⟨g1, g2, g3, g4, g5, g6⟩ := hen t rfl
      have hn2 := next hE ((s.drop t.from_).take (t.to - t.from_)) 0 (by simp; omega)
      rw [g6] at hn2
      have ef : ((s.drop ((t.from_ : Nat) : Int).toNat).take (((t.to : Nat) : Int).toNat - ((t.from_ : Nat) : Int).toNat)) = (s.drop t.from_).take (t.to - t.from_) := by
        rw [Int.toNat_natCast, Int.toNat_natCast]
      conv => whnf
      repeat' (first
        | (refine And.intro ?_ ?_; (focus (first | omega | decide | (unfold inI64; omega) | (simp only [List.length_append, List.length_cons, List.length_nil] <;> omega) | (refine ⟨?_, ?_⟩ <;> omega) | (simp <;> omega) | (unfold inI64; simp only [List.length_append, List.length_cons, List.length_nil] <;> omega))); conv => whnf)
        | (refine brD (fun _ => ?_) (fun _ => ?_) <;> conv => whnf)
        | (refine brB (fun _ => ?_) (fun _ => ?_) <;> conv => whnf)
        | (refine CallG.e (awake hE) ?_; conv => whnf)
        | (refine CallG.e (hn) ?_; conv => whnf)
        | (refine CallG.e (hn2) ?_; conv => whnf))
      all_goals try (exfalso; omega)
      all_goals try contradiction
      all_goals try (exfalso; clear hen g6 hn2 ef hn; simp at *; omega)
      refine RetG.drop rfl rfl rfl ⟨rfl, congrArg AV.bool (decide_eq_true ?_), rfl⟩
      show ((t.to - t.from_ : Nat) : Int) = (t.to : Int) - (t.from_ : Int)
      omega
    · conv => whnf
      repeat' (first
        | (refine And.intro ?_ ?_; (focus (first | omega | decide | (unfold inI64; omega) | (simp only [List.length_append, List.length_cons, List.length_nil] <;> omega) | (refine ⟨?_, ?_⟩ <;> omega) | (simp <;> omega) | (unfold inI64; simp only [List.length_append, List.length_cons, List.length_nil] <;> omega))); conv => whnf)
        | (refine brD (fun _ => ?_) (fun _ => ?_) <;> conv => whnf)
        | (refine brB (fun _ => ?_) (fun _ => ?_) <;> conv => whnf)
        | (refine CallG.e (awake hE) ?_; conv => whnf)
        | (refine CallG.e (hn) ?_; conv => whnf))
      all_goals first
        | exact RetG.drop rfl rfl rfl ⟨rfl, rfl, rfl⟩
        | (exfalso; omega)
end Ink.D
