import Derived.Test.YtogcalejbddjjaaGreatDoorPLexB
set_option linter.all false
namespace Ink.D
open Go Go.Proofs
set_option maxRecDepth 100000
variable {E : Env} (hE : E.P = Tryz.prog)

def Tok.sh (n : Nat) (t : Tok) : Tok := ⟨t.kind, t.f, t.s, t.whole, t.from_ + n, t.to + n⟩

theorem wordL_sh (r : List UInt8) (k n : Nat) : wordL r (k + n) = ((wordL r k).1.sh n, (wordL r k).2) := by
  unfold wordL
  dsimp only
  split
  · simp only [Tok.sh, Prod.mk.injEq, Tok.mk.injEq]; simp; omega
  · simp only [Tok.sh, Prod.mk.injEq, Tok.mk.injEq]; simp; omega

theorem digsL_err : ∀ (t : List UInt8) (e : Int), digsL t = .error e → e = 3 ∨ e = 4
  | [], e, h => by simp [digsL] at h; omega
  | c :: r, e, h => by
    have ih := digsL_err r
    unfold digsL at h
    split at h
    · cases hr : digsL r with
      | error e' => rw [hr] at h; simp [Except.map] at h; subst h; exact ih _ hr
      | ok x => rw [hr] at h; simp [Except.map] at h
    · split at h
      · cases h
      · split at h
        · cases hr : digsL r with
          | error e' => rw [hr] at h; simp [Except.map] at h; subst h; exact ih _ hr
          | ok x => rw [hr] at h; simp [Except.map] at h
        · simp at h; omega

theorem tokL_sh (r : List UInt8) (k n : Nat) (hr : r ≠ []) : (tokL r (k + n)).2 = (tokL r k).2 ∧ ((tokL r k).2 = 0 → (tokL r (k + n)).1 = (tokL r k).1.sh n) := by
  unfold tokL
  repeat' split
  all_goals try (rw [wordL_sh]; simp)
  all_goals try (simp [Tok.sh]; try omega)
  · exact absurd rfl hr
  · rename_i h
    intro he
    have := digsL_err _ _ h
    omega

theorem textL_le : ∀ (n : Nat) (s : List UInt8) (d : Nat) (x : List UInt8 × Nat), s.length ≤ n → textL s d = some x → x.2 ≤ s.length ∧ x.1.length ≤ x.2
  | 0, s, d, x, hn, h => by
    have : s = [] := List.eq_nil_of_length_eq_zero (by omega)
    subst this; rw [textL_nil] at h; cases h
  | n + 1, [], d, x, hn, h => by rw [textL_nil] at h; cases h
  | n + 1, c :: r, d, x, hn, h => by
    rw [textL_cons] at h
    simp only [List.length_cons] at hn ⊢
    have one : ∀ (d' : Nat) (a : List UInt8), a.length ≤ 1 → ((textL r d').map fun x => (a ++ x.1, 1 + x.2)) = some x → x.2 ≤ r.length + 1 ∧ x.1.length ≤ x.2 := by
      intro d' a ha h
      obtain ⟨y, hy, rfl⟩ := Option.map_eq_some_iff.mp h
      have := textL_le n r d' y (by omega) hy
      simp only [List.length_append]; omega
    split at h
    · split at h
      · cases h
      · rename_i hr
        obtain ⟨y, hy, rfl⟩ := Option.map_eq_some_iff.mp h
        have he := escL_le r hr
        have := textL_le n (r.drop (escL r).2) d y (by simp; omega) hy
        simp only [List.length_drop] at this
        simp only [List.length_append]; omega
    · split at h
      · exact one _ [c] (by simp) h
      · split at h
        · split at h
          · cases h; simp
          · exact one _ [c] (by simp) h
        · split at h
          · split at h
            · exact one _ [] (by simp) h
            · exact one _ [10] (by simp) h
          · exact one _ [c] (by simp) h

theorem digsL_le : ∀ (t : List UInt8) (x : List UInt8 × Nat), digsL t = .ok x → x.2 ≤ t.length ∧ x.1.length ≤ x.2
  | [], x, h => by simp [digsL] at h
  | c :: r, x, h => by
    have ih := digsL_le r
    unfold digsL at h
    simp only [List.length_cons]
    split at h
    · cases hr : digsL r with
      | error e' => rw [hr] at h; simp [Except.map] at h
      | ok y => rw [hr] at h; simp [Except.map] at h; subst h; have := ih y hr; simp; omega
    · split at h
      · cases h; simp
      · split at h
        · cases hr : digsL r with
          | error e' => rw [hr] at h; simp [Except.map] at h
          | ok y => rw [hr] at h; simp [Except.map] at h; subst h; have := ih y hr; simp; omega
        · cases h

theorem tw_le (p : UInt8 → Bool) (s : List UInt8) : (s.takeWhile p).length ≤ s.length := (List.takeWhile_sublist p).length_le

theorem wordL_le (r : List UInt8) (k : Nat) : (wordL r k).1.from_ = k ∧ (wordL r k).1.to ≤ k + r.length := by
  have := tw_le isReg r
  unfold wordL
  dsimp only
  split <;> simp <;> omega

theorem prefix_le {a r : List UInt8} (h : a.isPrefixOf r = true) : a.length ≤ r.length := (List.isPrefixOf_iff_prefix.mp h).length_le

theorem tokL_le (r : List UInt8) (k : Nat) : (tokL r k).1.from_ ≤ k ∧ (tokL r k).1.to ≤ k + r.length := by
  unfold tokL
  split
  · rename_i h; have := prefix_le h; simp at this ⊢; omega
  split
  · rename_i h; have := prefix_le h; simp at this ⊢; omega
  split
  · rename_i h; have := prefix_le h; simp at this ⊢; omega
  split
  · rename_i h; have := prefix_le h; simp at this ⊢; omega
  split
  · simp [Tok.zero]
  rename_i c t _ _ _ _
  simp only [List.length_cons]
  have h1 := tw_le isReg t
  split
  · split <;> simp <;> omega
  split
  · split
    · rename_i h; have := (textL_le _ _ _ _ (Nat.le_refl _) h).1; simp; omega
    · simp [Tok.zero]
  split
  · split
    · rename_i h; have := (digsL_le _ _ h).1; simp; omega
    · simp [Tok.zero]
  split
  · simp [Tok.zero]
  · have := wordL_le (c :: t) k
    simp only [List.length_cons] at this; omega

theorem nextL_le (s : List UInt8) (at_ : Int) : (nextL s at_).1.from_ ≤ s.length ∧ (nextL s at_).1.to ≤ s.length := by
  unfold nextL
  split
  · simp [Tok.zero]
  · dsimp only
    rename_i hr
    have hle := spaceL_le s at_.toNat (by omega)
    split
    · simp; omega
    · split
      · have := tokL_le (s.drop (spaceL s at_.toNat)) (spaceL s at_.toNat)
        simp only [List.length_drop] at this; omega
      · simp [Tok.zero]

include hE
end Ink.D

namespace Ink.D
open Go Go.Proofs
set_option maxRecDepth 100000

/-! there and back: texts -/
theorem nextL_tok (c : UInt8) (t : List UInt8) (hw : isWhite c = false) (h37 : c ≠ 37) : nextL (c :: t) 0 = if (tokL (c :: t) 0).2 = 0 then tokL (c :: t) 0 else (.zero, (tokL (c :: t) 0).2) := by
  unfold nextL
  rw [if_neg (by simp; omega)]
  have : spaceL (c :: t) (Int.toNat 0) = 0 := by
    unfold spaceL
    simp [skip, hw, h37]
  dsimp only
  rw [this, if_neg (by simp)]
  rfl

end Ink.D

namespace Ink.D
open Go Go.Proofs
set_option maxRecDepth 100000
variable {E : Env} (hE : E.P = Tryz.prog)

def low (c : UInt8) : Bool := decide (97 ≤ c.toNat) && decide (c.toNat ≤ 122)

include hE
end Ink.D

namespace Ink.D
open Go Go.Proofs
set_option maxRecDepth 100000
variable {E : Env} (hE : E.P = Tryz.prog)

def bAV (b : List UInt8) : List (List AV) := b.map fun c => [.int .u8 (c.toNat : Int)]
theorem bAV_len (b : List UInt8) : (bAV b).length = b.length := by simp [bAV]
theorem bAV_flat (b : List UInt8) : (bAV b).flatten = bytesAV b := by
  induction b with
  | nil => rfl
  | cons c r ih => simp only [bAV, List.map_cons, List.flatten_cons] at *; rw [ih]; rfl
include hE
end Ink.D

namespace Ink.D
open Go Go.Proofs
set_option maxRecDepth 100000
variable {E : Env} (hE : E.P = Tryz.prog)

theorem octG_take : ∀ (n : Nat) (s : List UInt8) (v m : Nat), (octG n s v).2 ≤ m → octG n (s.take m) v = octG n s v
  | 0, s, v, m, _ => by simp [octG]
  | n + 1, [], v, m, _ => by simp
  | n + 1, c :: r, v, 0, h => by
    rw [octG] at h
    by_cases hc : isOct c = true
    · rw [if_pos hc] at h; simp at h
    · simp only [List.take_zero, octG, hc]; simp
  | n + 1, c :: r, v, m + 1, h => by
    rw [octG] at h
    rw [List.take_succ_cons, octG, octG]
    by_cases hc : isOct c = true
    · rw [if_pos hc] at h
      simp only at h
      rw [if_pos hc, if_pos hc, octG_take n r _ m (by omega)]
    · rw [if_neg hc, if_neg hc]

theorem escL_take (r : List UInt8) (m : Nat) (hr : r ≠ []) (h1 : 1 ≤ m) (h : (escL r).2 ≤ m) : escL (r.take m) = escL r := by
  have ho : octalL (r.take m) = octalL r := by
    refine octG_take 3 r 0 m ?_
    unfold escL at h
    simp only at h
    split at h
    · exact h
    · rename_i h0
      have : (octG 3 r 0).2 = (octalL r).2 := rfl
      omega
  match r, m, hr, h1 with
  | c :: t, m + 1, _, _ =>
    have e : (c :: t).take (m + 1) = c :: t.take m := rfl
    unfold escL at h ⊢
    simp only at h ⊢
    rw [ho]
    split
    · rfl
    · rename_i h0
      rw [if_neg h0] at h
      rw [e]
      by_cases hp : List.isPrefixOf [13, 10] (c :: t) = true
      · rw [if_pos hp] at h
        have h2 : 1 ≤ m := by simp at h; omega
        match t, m, h2 with
        | [], _, _ => simp [List.isPrefixOf] at hp
        | d :: u, m + 1, _ =>
          have : List.isPrefixOf [13, 10] (c :: (d :: u).take (m + 1)) = true := by
            simpa [List.isPrefixOf] using hp
          rw [if_pos this, if_pos hp]
      · have : ¬ List.isPrefixOf [13, 10] (c :: t.take m) = true := by
          intro hq
          apply hp
          match t, m with
          | [], _ => simp [List.isPrefixOf] at hq
          | d :: u, 0 => simp [List.isPrefixOf] at hq
          | d :: u, m + 1 => simpa [List.isPrefixOf] using hq
        rw [if_neg this, if_neg hp]

theorem textL_pos {s : List UInt8} {d : Nat} {x : List UInt8 × Nat} (h : textL s d = some x) : 1 ≤ x.2 := by
  match s with
  | [] => rw [textL_nil] at h; cases h
  | c :: r =>
    rw [textL_cons] at h
    have one : ∀ {o : Option (List UInt8 × Nat)} {a : List UInt8} {k : Nat}, 1 ≤ k → (o.map fun x => (a ++ x.1, k + x.2)) = some x → 1 ≤ x.2 := by
      intro o a k hk h
      obtain ⟨y, _, rfl⟩ := Option.map_eq_some_iff.mp h
      simp; omega
    have one' : ∀ {o : Option (List UInt8 × Nat)} {a : UInt8}, (o.map fun x => (a :: x.1, 1 + x.2)) = some x → 1 ≤ x.2 := fun h => one (a := [_]) (k := 1) (by omega) h
    have one0 : ∀ {o : Option (List UInt8 × Nat)}, (o.map fun x => (x.1, 1 + x.2)) = some x → 1 ≤ x.2 := fun h => one (a := []) (k := 1) (by omega) h
    repeat' split at h
    all_goals first
      | (cases h; done)
      | (cases h; simp; done)
      | exact one (by omega) h
      | exact one' h
      | exact one0 h

theorem textL_take : ∀ (n : Nat) (s : List UInt8) (d : Nat) (x : List UInt8 × Nat), s.length ≤ n → textL s d = some x → textL (s.take x.2) d = some x
  | 0, s, d, x, hn, h => by
    have : s = [] := List.eq_nil_of_length_eq_zero (by omega)
    subst this; rw [textL_nil] at h; cases h
  | n + 1, [], d, x, hn, h => by rw [textL_nil] at h; cases h
  | n + 1, c :: r, d, x, hn, h => by
    simp only [List.length_cons] at hn
    have hpos := textL_pos h
    obtain ⟨m, hm⟩ : ∃ m, x.2 = m + 1 := ⟨x.2 - 1, by omega⟩
    rw [hm, List.take_succ_cons, textL_cons]
    rw [textL_cons] at h
    have one : ∀ (d' : Nat) (a : List UInt8), ((textL r d').map fun x => (a ++ x.1, 1 + x.2)) = some x → ((textL (r.take m) d').map fun x => (a ++ x.1, 1 + x.2)) = some x := by
      intro d' a h
      obtain ⟨y, hy, rfl⟩ := Option.map_eq_some_iff.mp h
      have hm : y.2 = m := by simp at hm; omega
      have := textL_take n r d' y (by omega) hy
      rw [hm] at this
      rw [this]; rfl
    by_cases h92 : c = 92
    · rw [if_pos h92] at h ⊢
      by_cases hr : r = []
      · rw [if_pos hr] at h; cases h
      · rw [if_neg hr] at h
        obtain ⟨y, hy, rfl⟩ := Option.map_eq_some_iff.mp h
        have hl := escL_le r hr
        have hm : (escL r).2 + y.2 = m := by simp at hm; omega
        have hy1 := textL_pos hy
        have hne : ¬ r.take m = [] := by simp [hr]; omega
        rw [if_neg hne, escL_take r m hr (by omega) (by omega), List.drop_take]
        have := textL_take n (r.drop (escL r).2) d y (by simp; omega) hy
        have e : m - (escL r).2 = y.2 := by omega
        rw [e, this]; rfl
    · rw [if_neg h92] at h ⊢
      by_cases h40 : c = 40
      · rw [if_pos h40] at h ⊢; exact one (d + 1) [c] h
      · rw [if_neg h40] at h ⊢
        by_cases h41 : c = 41
        · rw [if_pos h41] at h ⊢
          cases d with
          | zero => exact h
          | succ d => exact one d [c] h
        · rw [if_neg h41] at h ⊢
          by_cases h13 : c = 13
          · rw [if_pos h13] at h ⊢
            have hr : 1 ≤ m := by
              split at h
              · obtain ⟨y, hy, rfl⟩ := Option.map_eq_some_iff.mp h
                have := textL_pos hy
                simp at hm; omega
              · obtain ⟨y, hy, rfl⟩ := Option.map_eq_some_iff.mp h
                have := textL_pos hy
                simp at hm; omega
            have hp : List.isPrefixOf [13, 10] (c :: r.take m) = List.isPrefixOf [13, 10] (c :: r) := by
              match r, m, hr with
              | [], _, _ => simp
              | e :: u, m + 1, _ => simp [List.isPrefixOf]
            rw [hp]
            split
            · rename_i hq
              rw [if_pos hq] at h
              exact one d [] h
            · rename_i hq
              rw [if_neg hq] at h
              exact one d [10] h
          · rw [if_neg h13] at h ⊢; exact one d [c] h

theorem digsL_take : ∀ (t : List UInt8) (x : List UInt8 × Nat), digsL t = .ok x → 1 ≤ x.2 ∧ digsL (t.take x.2) = .ok x
  | [], x, h => by simp [digsL] at h
  | c :: r, x, h => by
    have ih := digsL_take r
    unfold digsL at h
    split at h
    · rename_i v hv
      cases hr : digsL r with
      | error e' => rw [hr] at h; simp [Except.map] at h
      | ok y =>
        rw [hr] at h; simp [Except.map] at h; subst h
        have := (ih y hr).2
        refine ⟨by simp, ?_⟩
        rw [show (1 + y.2) = y.2 + 1 by omega, List.take_succ_cons, digsL, hv]
        simp [this, Except.map]; omega
    · rename_i hv
      split at h
      · rename_i h62
        cases h
        refine ⟨by simp, ?_⟩
        have e : (c :: r).take 1 = [c] := rfl
        rw [e, digsL, hv]
        exact if_pos h62
      · rename_i h62
        split at h
        · rename_i hw
          cases hr : digsL r with
          | error e' => rw [hr] at h; simp [Except.map] at h
          | ok y =>
            rw [hr] at h; simp [Except.map] at h; subst h
            have := (ih y hr).2
            refine ⟨by simp, ?_⟩
            rw [show (1 + y.2) = y.2 + 1 by omega, List.take_succ_cons, digsL, hv]
            simp [this, Except.map, h62, hw]; omega
        · cases h

theorem tw_tw (p : UInt8 → Bool) (s : List UInt8) : (s.takeWhile p).takeWhile p = s.takeWhile p := by
  induction s with
  | nil => rfl
  | cons c r ih =>
    by_cases h : p c = true
    · rw [List.takeWhile_cons_of_pos h, List.takeWhile_cons_of_pos h, ih]
    · rw [List.takeWhile_cons_of_neg h]; rfl

theorem pre1 (a c : UInt8) (t u : List UInt8) : List.isPrefixOf [a] (c :: t) = List.isPrefixOf [a] (c :: u) := by simp [List.isPrefixOf]

theorem tokL_take (r : List UInt8) (t : Tok) (hr : r ≠ []) (hw : ∀ c, r.head? = some c → isWhite c = false) (h : tokL r 0 = (t, 0)) : t.from_ = 0 ∧ 1 ≤ t.to ∧ tokL (r.take t.to) 0 = (t, 0) ∧ t.kind ≠ 0 := by
  match r, hr with
  | c :: u, _ =>
    have hw := hw c rfl
    by_cases p1 : List.isPrefixOf [91] (c :: u) = true
    · have e : tokL (c :: u) 0 = (⟨4, 0, [], false, 0, 1⟩, 0) := by unfold tokL; rw [if_pos p1]
      rw [e] at h; cases h
      refine ⟨rfl, Nat.le_refl _, ?_, by decide⟩
      unfold tokL
      rw [if_pos (by simpa [List.isPrefixOf] using p1)]
    by_cases p2 : List.isPrefixOf [93] (c :: u) = true
    · have e : tokL (c :: u) 0 = (⟨5, 0, [], false, 0, 1⟩, 0) := by unfold tokL; rw [if_neg p1, if_pos p2]
      rw [e] at h; cases h
      refine ⟨rfl, Nat.le_refl _, ?_, by decide⟩
      unfold tokL
      rw [if_neg (by simpa [List.isPrefixOf] using p1), if_pos (by simpa [List.isPrefixOf] using p2)]
    have two : ∀ a b : UInt8, List.isPrefixOf [a, b] (c :: u) = true → ∃ v, c = a ∧ u = b :: v := by
      intro a b hp
      match u with
      | [] => simp [List.isPrefixOf] at hp
      | d :: v =>
        simp [List.isPrefixOf] at hp
        exact ⟨v, hp.1.symm, by rw [hp.2]⟩
    by_cases p3 : List.isPrefixOf [60, 60] (c :: u) = true
    · have e : tokL (c :: u) 0 = (⟨6, 0, [], false, 0, 2⟩, 0) := by unfold tokL; rw [if_neg p1, if_neg p2, if_pos p3]
      rw [e] at h; cases h
      obtain ⟨v, rfl, rfl⟩ := two _ _ p3
      exact ⟨rfl, by decide, rfl, by decide⟩
    by_cases p4 : List.isPrefixOf [62, 62] (c :: u) = true
    · have e : tokL (c :: u) 0 = (⟨7, 0, [], false, 0, 2⟩, 0) := by unfold tokL; rw [if_neg p1, if_neg p2, if_neg p3, if_pos p4]
      rw [e] at h; cases h
      obtain ⟨v, rfl, rfl⟩ := two _ _ p4
      exact ⟨rfl, by decide, rfl, by decide⟩
    simp only [Bool.not_eq_true] at p1 p2 p3 p4
    rw [tokL_cons c u 0 p1 p2 p3 p4] at h
    have q1 : ∀ v, List.isPrefixOf [91] (c :: v) = false := fun v => by rw [pre1 _ _ v u]; exact p1
    have q2 : ∀ v, List.isPrefixOf [93] (c :: v) = false := fun v => by rw [pre1 _ _ v u]; exact p2
    unfold tokR at h
    by_cases h47 : c = 47
    · subst h47
      rw [if_pos rfl] at h
      split at h
      · rename_i n hn
        cases h
        refine ⟨rfl, by simp, ?_, by simp⟩
        have e : (47 :: u).take (0 + 1 + (u.takeWhile isReg).length) = 47 :: u.takeWhile isReg := by
          rw [show 0 + 1 + (u.takeWhile isReg).length = (u.takeWhile isReg).length + 1 by omega, List.take_succ_cons, take_tw]
        rw [e, tokL_cons _ _ _ rfl rfl rfl rfl]
        unfold tokR
        rw [if_pos rfl, tw_tw, hn]
      · cases h
    rw [if_neg h47] at h
    by_cases h40 : c = 40
    · subst h40
      rw [if_pos rfl] at h
      split at h
      · rename_i x hx
        cases h
        refine ⟨rfl, by simp, ?_, by simp⟩
        have e : (40 :: u).take (0 + 1 + x.2) = 40 :: u.take x.2 := by
          rw [show 0 + 1 + x.2 = x.2 + 1 by omega, List.take_succ_cons]
        rw [e, tokL_cons _ _ _ rfl rfl rfl rfl]
        unfold tokR
        rw [if_neg (by decide), if_pos rfl, textL_take _ _ _ _ (Nat.le_refl _) hx]
      · cases h
    rw [if_neg h40] at h
    by_cases h60 : c = 60
    · subst h60
      rw [if_pos rfl] at h
      split at h
      · rename_i x hx
        cases h
        obtain ⟨g1, g2⟩ := digsL_take _ _ hx
        refine ⟨rfl, by simp, ?_, by simp⟩
        have e : (60 :: u).take (0 + 1 + x.2) = 60 :: u.take x.2 := by
          rw [show 0 + 1 + x.2 = x.2 + 1 by omega, List.take_succ_cons]
        have q3 : List.isPrefixOf [60, 60] (60 :: u.take x.2) = false := by
          match u, x.2, g1 with
          | [], _, _ => simp [List.isPrefixOf]
          | d :: v, m + 1, _ => simpa [List.isPrefixOf] using p3
        rw [e, tokL_cons _ _ _ rfl rfl q3 rfl]
        unfold tokR
        rw [if_neg (by decide), if_neg (by decide), if_pos rfl, g2]
      · rename_i e he
        have := digsL_err _ _ he
        simp at h; omega
    rw [if_neg h60] at h
    by_cases hd : isDelim c = true
    · rw [if_pos hd] at h; cases h
    rw [if_neg hd] at h
    simp only [Bool.not_eq_true] at hd
    have hreg : isReg c = true := by simp [isReg, hw, hd]
    have h62 : c ≠ 62 := fun e => by rw [e] at hd; revert hd; decide
    have hlen : 1 ≤ ((c :: u).takeWhile isReg).length := by rw [List.takeWhile_cons_of_pos hreg]; simp
    have hfrom := (wordL_le (c :: u) 0).1
    have hto : (wordL (c :: u) 0).1.to = ((c :: u).takeWhile isReg).length := by
      unfold wordL; dsimp only; split <;> simp
    have hk : (wordL (c :: u) 0).1.kind ≠ 0 := by
      unfold wordL; dsimp only; split <;> simp
    rw [h] at hfrom hto hk
    dsimp only at hfrom hto hk
    refine ⟨hfrom, by omega, ?_, hk⟩
    have e : (c :: u).take t.to = c :: u.takeWhile isReg := by
      rw [hto, take_tw, List.takeWhile_cons_of_pos hreg]
    have f3 : List.isPrefixOf [60, 60] (c :: u.takeWhile isReg) = false := by
      have : ((60 : UInt8) == c) = false := by simpa using Ne.symm h60
      simp [List.isPrefixOf, this]
    have f4 : List.isPrefixOf [62, 62] (c :: u.takeWhile isReg) = false := by
      have : ((62 : UInt8) == c) = false := by simpa using Ne.symm h62
      simp [List.isPrefixOf, this]
    rw [e, tokL_cons _ _ _ (q1 _) (q2 _) f3 f4]
    unfold tokR
    rw [if_neg h47, if_neg h40, if_neg h60, if_neg (by rw [hd]; decide)]
    have e2 : c :: u.takeWhile isReg = (c :: u).takeWhile isReg := by rw [List.takeWhile_cons_of_pos hreg]
    rw [e2, ← h]
    unfold wordL
    rw [tw_tw]

theorem nextL_ends (s : List UInt8) (at_ : Int) (h0 : 0 ≤ at_) (h1 : at_ ≤ s.length) (t : Tok) (h : nextL s at_ = (t, 0)) :
    at_ ≤ (t.from_ : Int) ∧ t.from_ ≤ t.to ∧ t.to ≤ s.length ∧ (t.kind = 0 ↔ t.from_ = s.length) ∧ (t.kind = 0 ↔ t.to = t.from_) ∧
    nextL ((s.drop t.from_).take (t.to - t.from_)) 0 = (⟨t.kind, t.f, t.s, t.whole, 0, t.to - t.from_⟩, 0) := by
  have hle := nextL_le s at_
  rw [h] at hle
  unfold nextL at h
  rw [if_neg (by omega)] at h
  dsimp only at h hle
  have hsl := spaceL_le s at_.toNat (by omega)
  have hat := spaceL_at s at_.toNat
  generalize spaceL s at_.toNat = k at *
  by_cases hk : k = s.length
  · rw [if_pos hk] at h
    cases h
    subst hk
    refine ⟨by show at_ ≤ ((s.length : Nat) : Int); omega, Nat.le_refl _, Nat.le_refl _, by simp, by simp, ?_⟩
    simp only [Nat.sub_self, List.take_zero]
    decide
  · rw [if_neg hk] at h
    have hlt : k < s.length := by omega
    obtain ⟨hw, h37⟩ := hat hlt
    have hd := List.drop_eq_getElem_cons hlt
    split at h
    · rename_i hz
      have hsh := tokL_sh (s.drop k) 0 k (by rw [hd]; exact List.cons_ne_nil _ _)
      rw [Nat.zero_add] at hsh
      obtain ⟨f1, f2⟩ := hsh
      rw [hz] at f1
      have f2 := f2 f1.symm
      rw [h] at f2
      have hr0 : tokL (s.drop k) 0 = ((tokL (s.drop k) 0).1, 0) := Prod.ext rfl f1.symm
      obtain ⟨g1, g2, g3, g4⟩ := tokL_take (s.drop k) _ (by rw [hd]; exact List.cons_ne_nil _ _) (fun c hc => by rw [hd] at hc; cases (show some s[k] = some c from hc); exact hw) hr0
      generalize (tokL (s.drop k) 0).1 = u at *
      dsimp only at f2
      subst f2
      have e1 : (u.sh k).from_ = k := by simp [Tok.sh, g1]
      have e2 : (u.sh k).to = u.to + k := rfl
      have e3 : (u.sh k).kind = u.kind := rfl
      rw [e1, e2, e3]
      rw [e2] at hle
      have e4 : u.to + k - k = u.to := by omega
      rw [e4]
      refine ⟨by omega, by omega, hle.2, ⟨fun h => absurd h g4, fun h => absurd h hk⟩, ⟨fun h => absurd h g4, fun h => by omega⟩, ?_⟩
      obtain ⟨m, hm⟩ : ∃ m, u.to = m + 1 := ⟨u.to - 1, by omega⟩
      have ht : (s.drop k).take u.to = s[k] :: (s.drop (k + 1)).take m := by rw [hm, hd, List.take_succ_cons]
      rw [ht] at g3 ⊢
      rw [nextL_tok _ _ hw h37, g3]
      simp only [if_true]
      refine Prod.ext ?_ rfl
      cases u
      simp at g1
      simp [Tok.sh, g1]
    · rename_i hz
      simp at h
      exact absurd h.2 hz

include hE
end Ink.D
