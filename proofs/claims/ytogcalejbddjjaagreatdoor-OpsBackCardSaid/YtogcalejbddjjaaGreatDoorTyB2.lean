import Derived.Test.YtogcalejbddjjaaGreatDoorTyB1
set_option linter.all false
namespace Ink.D
open Go Go.Proofs
set_option maxRecDepth 100000

/-! what is written is read as it was -/
mutual
def plainO : Ob → Bool
  | .mk k n f s l d => decide (¬ ((k ≠ 1 ∧ k ≠ 2 ∧ k ≠ 7 ∧ n ≠ 0) ∨ (k ≠ 2 ∧ k ≠ 7 ∧ f ≠ 0) ∨ (k ≠ 3 ∧ k ≠ 4 ∧ k ≠ 8 ∧ s ≠ []) ∨ (k ≠ 5 ∧ 0 < l.length) ∨ (k ≠ 6 ∧ k ≠ 8 ∧ 0 < d.length))) && (plainL l && plainD d)
def plainL : List Ob → Bool
  | [] => true
  | o :: r => plainO o && plainL r
def plainD : List (List UInt8 × Ob) → Bool
  | [] => true
  | e :: r => plainE e && plainD r
def plainE : List UInt8 × Ob → Bool
  | (_, o) => plainO o
end

theorem andNot1 {n : Int} (hn : inI64 n) (h : bits .andNot .i64 n 1 = 0) : n = 0 ∨ n = 1 := by
  unfold bits at h
  unfold inI64 at hn
  have hb : BitVec.ofInt 64 n &&& ~~~(BitVec.ofInt 64 1) = 0#64 := by
    have h : IntKind.wrap .i64 ((BitVec.ofInt 64 n &&& ~~~(BitVec.ofInt 64 1)).toNat : Int) = 0 := h
    generalize BitVec.ofInt 64 n &&& ~~~(BitVec.ofInt 64 1) = v at h
    have hv := v.isLt
    refine BitVec.eq_of_toNat_eq ?_
    unfold IntKind.wrap at h
    simp only [show IntKind.i64.bits = 64 from rfl] at h
    have e : ((v.toNat : Nat) : Int) % 2 ^ 64 = v.toNat := by omega
    rw [e] at h
    show v.toNat = 0
    split at h <;> omega
  have hs : (BitVec.ofInt 64 n) >>> 1 = 0#64 := by
    have e : (BitVec.ofInt 64 n) >>> 1 = (BitVec.ofInt 64 n &&& ~~~(BitVec.ofInt 64 1)) >>> 1 := by
      refine BitVec.eq_of_getLsbD_eq fun i hi => ?_
      rw [BitVec.getLsbD_ushiftRight, BitVec.getLsbD_ushiftRight, BitVec.getLsbD_and, BitVec.getLsbD_not]
      have : (BitVec.ofInt 64 1).getLsbD (1 + i) = false := by
        rw [show BitVec.ofInt 64 1 = 1#64 from rfl, BitVec.getLsbD_one]
        simp
      rw [this]
      by_cases h : 1 + i < 64
      · simp [h]
      · rw [BitVec.getLsbD_of_ge _ _ (by omega)]; simp
    rw [e, hb]; rfl
  have ht := congrArg BitVec.toNat hs
  rw [BitVec.toNat_ushiftRight, BitVec.toNat_ofInt, Nat.shiftRight_eq_div_pow] at ht
  simp at ht
  omega

def tailN (R : List UInt8) : Prop := ∀ c r, R = c :: r → isReg c = false
theorem tailN_cons {c : UInt8} {R : List UInt8} (h : isReg c = false) : tailN (c :: R) := fun a r e => by simp at e; rw [← e.1]; exact h

section
variable {s R : List UInt8} {p : Nat}

theorem nx_nameA {key b : List UInt8} (hb : tailN b) (h : s.drop p = (47 :: (key.map nameC).flatten) ++ b) : nextL s p = (⟨2, 0, key, false, p, p + (47 :: (key.map nameC).flatten).length⟩, 0) := by
  have htw := tw_all isReg _ b (name_reg key) hb
  have ht : tokL (47 :: ((key.map nameC).flatten ++ b)) p = (⟨2, 0, key, false, p, p + (47 :: (key.map nameC).flatten).length⟩, 0) := by
    rw [tokL_cons _ _ _ rfl rfl rfl rfl]
    unfold tokR
    rw [if_pos rfl, htw, named_name]
    simp; omega
  rw [List.cons_append] at h
  rw [nextL_at h (drop_le h (by simp))]
  have hsk : skip (47 :: ((key.map nameC).flatten ++ b)) false = 0 := by simp [skip, show isWhite 47 = false by decide]
  rw [hsk, if_neg (by simp)]
  simp only [List.drop_zero, Nat.add_zero]
  rw [ht]
  rfl

theorem nx_quoteA {t more : List UInt8} (h : s.drop p = (40 :: (t.map quoteC).flatten ++ [41]) ++ more) : nextL s p = (⟨3, 0, t, false, p, p + (40 :: (t.map quoteC).flatten ++ [41]).length⟩, 0) := by
  have e : (40 :: (t.map quoteC).flatten ++ [41]) ++ more = 40 :: ((t.map quoteC).flatten ++ (41 :: more)) := by simp
  have ht : textL ((t.map quoteC).flatten ++ (41 :: more)) 0 = some (t, ((t.map quoteC).flatten).length + 1) := by
    rw [textL_quote, textL_cons]; simp
  have htk : tokL (40 :: ((t.map quoteC).flatten ++ (41 :: more))) p = (⟨3, 0, t, false, p, p + (40 :: (t.map quoteC).flatten ++ [41]).length⟩, 0) := by
    rw [tokL_cons _ _ _ rfl rfl rfl rfl]
    unfold tokR
    rw [if_neg (by decide), if_pos rfl, ht]
    simp; omega
  rw [e] at h
  rw [nextL_at h (drop_le h (by simp))]
  have hsk : skip (40 :: ((t.map quoteC).flatten ++ (41 :: more))) false = 0 := by simp [skip, show isWhite 40 = false by decide]
  rw [hsk, if_neg (by simp)]
  simp only [List.drop_zero, Nat.add_zero]
  rw [htk]
  rfl

theorem nx_word {c : UInt8} {w : List UInt8} (hw : (c :: w).all (fun c => decide (65 ≤ c.toNat) && decide (c.toNat ≤ 90) || decide (97 ≤ c.toNat) && decide (c.toNat ≤ 122)) = true) (hR : tailN R) (h : s.drop p = (c :: w) ++ R) :
    nextL s p = (⟨8, 0, c :: w, false, p, p + (c :: w).length⟩, 0) := by
  have key : ∀ c : UInt8, (!(decide (65 ≤ c.toNat) && decide (c.toNat ≤ 90) || decide (97 ≤ c.toNat) && decide (c.toNat ≤ 122)) || decide (isReg c = true ∧ isWhite c = false ∧ c ≠ 37 ∧ c ≠ 91 ∧ c ≠ 93 ∧ c ≠ 60 ∧ c ≠ 62 ∧ c ≠ 47 ∧ c ≠ 40 ∧ isDelim c = false ∧ c ∉ numStart)) = true := by
    intro c
    revert c
    refine u8all ?_
    decide +kernel
  have kk : ∀ c : UInt8, (decide (65 ≤ c.toNat) && decide (c.toNat ≤ 90) || decide (97 ≤ c.toNat) && decide (c.toNat ≤ 122)) = true → (isReg c = true ∧ isWhite c = false ∧ c ≠ 37 ∧ c ≠ 91 ∧ c ≠ 93 ∧ c ≠ 60 ∧ c ≠ 62 ∧ c ≠ 47 ∧ c ≠ 40 ∧ isDelim c = false ∧ c ∉ numStart) := by
    intro c hc
    have := key c
    rw [hc] at this
    simpa using this
  have hall : (c :: w).all isReg = true := by
    rw [List.all_eq_true] at hw ⊢
    exact fun x hx => (kk x (hw x hx)).1
  have htw := tw_all isReg _ R hall hR
  obtain ⟨k0, k1, k2, k3, k4, k5, k6, k7, k8, k9, k10⟩ := kk c (by simp only [List.all_cons, Bool.and_eq_true] at hw; exact hw.1)
  have pf : ∀ (a : UInt8) (l m : List UInt8), c ≠ a → List.isPrefixOf (a :: l) (c :: m) = false := fun a l m h => by
    have : (a == c) = false := by simpa using h.symm
    simp [List.isPrefixOf, this]
  rw [List.cons_append] at h htw
  have htok : tokL (c :: (w ++ R)) p = (⟨8, 0, c :: w, false, p, p + (c :: w).length⟩, 0) := by
    rw [tokL_cons _ _ _ (pf _ _ _ k3) (pf _ _ _ k4) (pf _ _ _ k5) (pf _ _ _ k6)]
    unfold tokR
    rw [if_neg k7, if_neg k8, if_neg k5, k9]
    simp only [Bool.false_eq_true, if_false]
    unfold wordL
    rw [htw]
    simp only [List.getD_cons_zero]
    rw [if_neg k10]
  rw [nextL_at h (drop_le h (by simp))]
  have hsk : skip (c :: (w ++ R)) false = 0 := by simp [skip, k1, k2]
  rw [hsk, if_neg (by simp)]
  simp only [List.drop_zero, Nat.add_zero]
  rw [htok]
  rfl

theorem nx_R (h : s.drop p = 82 :: R) (hR : tailN R) : nextL s p = (⟨8, 0, [82], false, p, p + 1⟩, 0) := nx_word (c := 82) (w := []) (by decide) hR h
end

def notR (s : List UInt8) (q : Nat) : Prop := (nextL s q).2 = 0 → ¬ ((nextL s q).1.kind = 8 ∧ (nextL s q).1.s = [82])
def noRef (s : List UInt8) (q : Nat) : Prop := (nextL s q).2 = 0 → wholeT (nextL s q).1 = true → (nextL s (nextL s q).1.to).2 = 0 → ¬ ((nextL s (nextL s q).1.to).1.kind = 8 ∧ (nextL s (nextL s q).1.to).1.s = [82])

theorem noRef_kind {s : List UInt8} {q : Nat} (h : (nextL s q).1.kind ≠ 1) : noRef s q := by
  intro _ hw
  simp [wholeT] at hw
  exact absurd hw.1.1 h

def FirstT (s : List UInt8) (p : Nat) (o : Ob) : Prop :=
  ∃ t, nextL s p = (t, 0) ∧ t.kind ≠ 0 ∧ t.kind ≠ 5 ∧ t.kind ≠ 7 ∧ (t.kind = 8 → t.s ≠ [82]) ∧ (t.kind = 1 → (o.kind = 2 ∧ t.to = p + (txt o).length) ∨ (nextL s t.to).1.kind = 1)

structure Good (o : Ob) (deep : Int) : Prop where
  pl : plainO o = true
  sn : saneF o deep = 0
  wf : wfO o
  k8 : o.kind ≠ 8

theorem good_parts {k n f : Int} {s : List UInt8} {l : List Ob} {d : List (List UInt8 × Ob)} {deep : Int} (h : Good (.mk k n f s l d) deep) :
    (k = 0 ∧ n = 0 ∧ f = 0 ∧ s = [] ∧ l = [] ∧ d = []) ∨ (k = 1 ∧ (n = 0 ∨ n = 1) ∧ f = 0 ∧ s = [] ∧ l = [] ∧ d = []) ∨ (k = 2 ∧ mayF f = true ∧ (n = 0 ∨ (n = 1 ∧ f.tmod 1000 = 0)) ∧ s = [] ∧ l = [] ∧ d = []) ∨
    (k = 3 ∧ n = 0 ∧ f = 0 ∧ l = [] ∧ d = []) ∨ (k = 4 ∧ n = 0 ∧ f = 0 ∧ l = [] ∧ d = []) ∨ (k = 5 ∧ n = 0 ∧ f = 0 ∧ s = [] ∧ d = [] ∧ l.length ≤ 1024 ∧ deep < 64 ∧ saneFs l (deep + 1) = 0 ∧ plainL l = true ∧ wfOs l) ∨
    (k = 6 ∧ n = 0 ∧ f = 0 ∧ s = [] ∧ l = [] ∧ d.length ≤ 1024 ∧ deep < 64 ∧ entL [] d = 0 ∧ saneFd d (deep + 1) = 0 ∧ plainD d = true ∧ wfDs d) ∨
    (k = 7 ∧ 0 ≤ n ∧ n ≤ 2147483 ∧ mayF f = true ∧ 0 ≤ f ∧ f.tmod 1000 = 0 ∧ s = [] ∧ l = [] ∧ d = []) := by
  obtain ⟨hp, hs, hw, h8⟩ := h
  unfold Ob.kind at h8
  simp only at h8
  unfold wfO at hw
  obtain ⟨_, hn, _, _, _, _, hwl, hwd⟩ := hw
  unfold plainO at hp
  rw [Bool.and_eq_true, Bool.and_eq_true, decide_eq_true_eq] at hp
  obtain ⟨hP, p6, p7⟩ := hp
  rw [saneF] at hs
  have hsh : shapeF k n f d deep = 0 := by
    rcases Decidable.em (shapeF k n f d deep = 0) with h | h
    · exact h
    · rw [if_pos h] at hs; exact absurd hs h
  rw [if_neg (by simp [hsh])] at hs
  have hsz : sizeL k n f l.length d.length deep = 0 := by
    rcases Decidable.em (sizeL k n f l.length d.length deep = 0) with h | h
    · exact h
    · rw [if_pos h] at hs; exact absurd hs h
  rw [if_neg (by simp [hsz])] at hs
  have cS : k ≠ 3 → k ≠ 4 → s = [] := fun a b => Decidable.byContradiction fun h => hP (.inr (.inr (.inl ⟨a, b, h8, h⟩)))
  have cL : k ≠ 5 → l = [] := fun a => List.eq_nil_of_length_eq_zero (by rcases Nat.eq_zero_or_pos l.length with h | h; exact h; exact absurd (.inr (.inr (.inr (.inl ⟨a, h⟩)))) hP)
  have cD : k ≠ 6 → d = [] := fun a => List.eq_nil_of_length_eq_zero (by rcases Nat.eq_zero_or_pos d.length with h | h; exact h; exact absurd (.inr (.inr (.inr (.inr ⟨a, h8, h⟩)))) hP)
  have cF : k ≠ 2 → k ≠ 7 → f = 0 := fun a b => Decidable.byContradiction fun h => hP (.inr (.inl ⟨a, b, h⟩))
  have cN : k ≠ 1 → k ≠ 2 → k ≠ 7 → n = 0 := fun a b c => Decidable.byContradiction fun h => hP (.inl ⟨a, b, c, h⟩)
  unfold shapeF at hsh
  rw [if_neg h8] at hsh
  unfold sizeL at hsz
  have hz1 : ¬ ((k = 2 ∧ mayF f = false) ∨ (k = 7 ∧ (mayF f = false ∨ n > 2147483))) := fun h => by rw [if_pos h] at hsz; exact absurd hsz (by decide)
  rw [if_neg hz1] at hsz
  by_cases h6 : k = 6
  · subst h6
    rw [if_pos rfl] at hsh
    rw [if_neg (by simp), if_neg (show ¬ (6 : Int) = 5 by decide)] at hsz
    right; right; right; right; right; right; left
    have hd : ¬ d.length > 1024 := fun h => by rw [if_pos h] at hsz; exact absurd hsz (by decide)
    rw [if_neg hd] at hsz
    have hdp : ¬ deep ≥ 64 := fun h => by rw [if_pos h] at hsz; exact absurd hsz (by decide)
    rw [if_neg (by decide), if_pos (by decide)] at hs
    exact ⟨rfl, cN (by decide) (by decide) (by decide), cF (by decide) (by decide), cS (by decide) (by decide), cL (by decide), by omega, by omega, hsh, hs, p7, hwd⟩
  · rw [if_neg h6] at hsh
    unfold shapeL at hsh
    by_cases h5 : k = 5
    · subst h5
      rw [if_neg (by simp), if_pos rfl] at hsz
      right; right; right; right; right; left
      have hd : ¬ l.length > 1024 := fun h => by rw [if_pos h] at hsz; exact absurd hsz (by decide)
      rw [if_neg hd] at hsz
      have hdp : ¬ deep ≥ 64 := fun h => by rw [if_pos h] at hsz; exact absurd hsz (by decide)
      rw [if_pos rfl] at hs
      exact ⟨rfl, cN (by decide) (by decide) (by decide), cF (by decide) (by decide), cS (by decide) (by decide), cD (by decide), by omega, by omega, hs, p6, hwl⟩
    · have cL' := cL h5
      have cD' := cD h6
      by_cases h034 : k = 0 ∨ k = 3 ∨ k = 4
      · rcases h034 with rfl | rfl | rfl
        · left; exact ⟨rfl, cN (by decide) (by decide) (by decide), cF (by decide) (by decide), cS (by decide) (by decide), cL', cD'⟩
        · right; right; right; left; exact ⟨rfl, cN (by decide) (by decide) (by decide), cF (by decide) (by decide), cL', cD'⟩
        · right; right; right; right; left; exact ⟨rfl, cN (by decide) (by decide) (by decide), cF (by decide) (by decide), cL', cD'⟩
      · rw [if_neg (by omega)] at hsh
        by_cases h1 : k = 1
        · subst h1
          rw [if_pos rfl] at hsh
          have hb : bits .andNot .i64 n 1 = 0 := by
            rcases Decidable.em (bits .andNot .i64 n 1 = 0) with h | h
            · exact h
            · rw [if_neg h] at hsh; exact absurd hsh (by decide)
          right; left
          exact ⟨rfl, andNot1 hn hb, cF (by decide) (by decide), cS (by decide) (by decide), cL', cD'⟩
        · rw [if_neg h1] at hsh
          by_cases h2 : k = 2
          · subst h2
            rw [if_pos rfl] at hsh
            have hb : bits .andNot .i64 n 1 = 0 ∧ ¬ (n = 1 ∧ f.tmod 1000 ≠ 0) := by
              rcases Decidable.em (bits .andNot .i64 n 1 = 0 ∧ ¬ (n = 1 ∧ f.tmod 1000 ≠ 0)) with h | h
              · exact h
              · rw [if_neg h] at hsh; exact absurd hsh (by decide)
            right; right; left
            have hm : mayF f = true := by
              cases hm : mayF f with
              | true => rfl
              | false => exact absurd (.inl ⟨rfl, hm⟩) hz1
            have hn := andNot1 hn hb.1
            exact ⟨rfl, hm, by omega, cS (by decide) (by decide), cL', cD'⟩
          · rw [if_neg h2] at hsh
            by_cases h7 : k = 7
            · subst h7
              rw [if_pos rfl] at hsh
              have hb : ¬ (n < 0 ∨ f < 0 ∨ f.tmod 1000 ≠ 0) := fun h => by rw [if_pos h] at hsh; exact absurd hsh (by decide)
              have hm : mayF f = true := by
                cases hm : mayF f with
                | true => rfl
                | false => exact absurd (.inr ⟨rfl, .inl hm⟩) hz1
              have hn2 : ¬ n > 2147483 := fun h => hz1 (.inr ⟨rfl, .inr h⟩)
              right; right; right; right; right; right; right
              exact ⟨rfl, by omega, by omega, hm, by omega, by omega, cS (by decide) (by decide), cL', cD'⟩
            · rw [if_neg h7] at hsh; exact absurd hsh (by decide)

theorem space32 : isReg 32 = false := by decide
theorem reg93 : isReg 93 = false := by decide
theorem reg62 : isReg 62 = false := by decide

theorem numT1 {f : Int} (h : f.tmod 1000 = 0) : printL f = numT 1 f := by unfold numT; rw [if_neg (by simp)]

theorem itoa_dec {n : Int} (h : 0 ≤ n) : Lib.itoa n = Lib.decDigits n.toNat := by unfold Lib.itoa; rw [if_neg (by omega)]

theorem firstT {s R : List UInt8} {p : Nat} {o : Ob} {deep : Int} (hg : Good o deep) (hR : tailN R) (h : s.drop p = txt o ++ R) : FirstT s p o := by
  obtain ⟨k, n, f, t, l, d⟩ := o
  rcases good_parts hg with ⟨rfl, _⟩ | ⟨rfl, hn, _⟩ | ⟨rfl, hf, hn, _⟩ | ⟨rfl, _⟩ | ⟨rfl, _⟩ | ⟨rfl, _⟩ | ⟨rfl, _⟩ | ⟨rfl, h0, h1, hf, hf0, hfm, _⟩
  · have e : txt (.mk 0 n f t l d) = [110, 117, 108, 108] := by simp [txt]
    rw [e] at h
    exact ⟨_, nx_word (c := 110) (w := [117, 108, 108]) (by decide) hR h, by simp, by simp, by simp, by simp, by simp⟩
  · rcases hn with rfl | rfl
    · have e : txt (.mk 1 0 f t l d) = [102, 97, 108, 115, 101] := by simp [txt]
      rw [e] at h
      exact ⟨_, nx_word (c := 102) (w := [97, 108, 115, 101]) (by decide) hR h, by simp, by simp, by simp, by simp, by simp⟩
    · have e : txt (.mk 1 1 f t l d) = [116, 114, 117, 101] := by simp [txt]
      rw [e] at h
      exact ⟨_, nx_word (c := 116) (w := [114, 117, 101]) (by decide) hR h, by simp, by simp, by simp, by simp, by simp⟩
  · have e : txt (.mk 2 n f t l d) = numT n f := by simp [txt]
    rw [e] at h
    refine ⟨_, nx_num hf hn hR h, by simp, by simp, by simp, by simp, fun _ => .inl ⟨rfl, ?_⟩⟩
    rw [e]
  · have e : txt (.mk 3 n f t l d) = 47 :: (t.map nameC).flatten := by simp [txt]
    rw [e] at h
    exact ⟨_, nx_nameA hR h, by simp, by simp, by simp, by simp, by simp⟩
  · have e : txt (.mk 4 n f t l d) = 40 :: (t.map quoteC).flatten ++ [41] := by simp [txt]
    rw [e] at h
    exact ⟨_, nx_quoteA h, by simp, by simp, by simp, by simp, by simp⟩
  · have e : txt (.mk 5 n f t l d) = [91] ++ joinT (txtL l) ++ [93] := by simp [txt]
    rw [e, List.append_assoc, List.append_assoc] at h
    exact ⟨_, nx_open h, by simp, by simp, by simp, by simp, by simp⟩
  · have e : txt (.mk 6 n f t l d) = [60, 60] ++ joinT (txtD d) ++ [62, 62] := by simp [txt]
    rw [e, List.append_assoc, List.append_assoc] at h
    exact ⟨_, nx_dopen h, by simp, by simp, by simp, by simp, by simp⟩
  · have e : txt (.mk 7 n f t l d) = Lib.itoa n ++ ([32] ++ (numT 1 f ++ ([32, 82] : List UInt8))) := by simp [txt, numT1 hfm]
    rw [e, itoa_dec h0, List.append_assoc] at h
    have hn1 := nx_itoa (n := n.toNat) (by omega) (tailN_cons (R := numT 1 f ++ [32, 82] ++ R) space32) (by rw [h]; simp)
    refine ⟨_, hn1, by simp, by simp, by simp, by simp, fun _ => .inr ?_⟩
    have h2 : s.drop (p + (Lib.decDigits n.toNat).length) = 32 :: (numT 1 f ++ (32 :: 82 :: R)) := by
      have := drop_more h; rw [this]; simp
    have h3 : s.drop (p + (Lib.decDigits n.toNat).length + 1) = numT 1 f ++ (32 :: 82 :: R) := drop_more (A := [32]) h2
    have hn2 := nx_num (n := 1) hf (.inr ⟨rfl, hfm⟩) (tailN_cons space32) h3
    have := nx_space h2
    simp only
    rw [this, hn2]

theorem noRef_obj {s R : List UInt8} {q : Nat} {o : Ob} {deep : Int} (hg : Good o deep) (hR : tailN R) (h : s.drop q = 32 :: (txt o ++ R)) (hn : notR s (q + 1 + (txt o).length)) : noRef s q ∧ notR s q := by
  have h2 : s.drop (q + 1) = txt o ++ R := drop_more (A := [32]) h
  have hs := nx_space h
  obtain ⟨t, ht, k0, k5, k7, k8, k1⟩ := firstT hg hR h2
  constructor
  · intro _ hw
    rw [hs, ht] at hw ⊢
    simp only at hw ⊢
    have hk : t.kind = 1 := by simp [wholeT] at hw; exact hw.1.1
    intro h3
    rcases k1 hk with ⟨_, hto⟩ | h4
    · rw [hto] at h3 ⊢
      exact hn h3
    · rw [h4]; simp
  · intro _
    rw [hs, ht]
    exact fun h => k8 h.1 h.2

def restL (l : List Ob) (R : List UInt8) : List UInt8 := ((txtL l).map (32 :: ·)).flatten ++ (93 :: R)
theorem restL_cons (o : Ob) (l : List Ob) (R : List UInt8) : restL (o :: l) R = 32 :: (txt o ++ restL l R) := by simp [restL, txtL]
theorem restL_tail (l : List Ob) (R : List UInt8) : tailN (restL l R) := by
  cases l with
  | nil => exact tailN_cons reg93
  | cons o r => rw [restL_cons]; exact tailN_cons space32

def restD (d : List (List UInt8 × Ob)) (R : List UInt8) : List UInt8 := ((txtD d).map (32 :: ·)).flatten ++ (62 :: 62 :: R)
theorem restD_cons (e : List UInt8 × Ob) (l : List (List UInt8 × Ob)) (R : List UInt8) : restD (e :: l) R = 32 :: ((47 :: (e.1.map nameC).flatten) ++ (32 :: (txt e.2 ++ restD l R))) := by
  obtain ⟨a, o⟩ := e
  simp [restD, txtD, txtE]
theorem restD_tail (l : List (List UInt8 × Ob)) (R : List UInt8) : tailN (restD l R) := by
  cases l with
  | nil => exact tailN_cons reg62
  | cons o r => rw [restD_cons]; exact tailN_cons space32

theorem restL_noRef {s R : List UInt8} {deep : Int} : ∀ (l : List Ob) (q : Nat), (∀ o ∈ l, Good o deep) → s.drop q = restL l R → noRef s q ∧ notR s q
  | [], q, _, h => by
    have h : s.drop q = 93 :: R := h
    have hn := nx_close h
    refine ⟨noRef_kind (by rw [hn]; simp), fun _ => by rw [hn]; simp⟩
  | o :: r, q, hg, h => by
    rw [restL_cons] at h
    have h2 : s.drop (q + 1) = txt o ++ restL r R := drop_more (A := [32]) h
    have h3 := drop_more h2
    have ih := restL_noRef r _ (fun o ho => hg o (List.mem_cons_of_mem _ ho)) h3
    exact noRef_obj (hg o (List.mem_cons_self ..)) (restL_tail r R) h ih.2

theorem restD_noRef {s R : List UInt8} (l : List (List UInt8 × Ob)) (q : Nat) (h : s.drop q = restD l R) : noRef s q := by
  cases l with
  | nil =>
    have h : s.drop q = 62 :: 62 :: R := h
    have hn := nx_dclose h
    exact noRef_kind (by rw [hn]; simp)
  | cons e r =>
    rw [restD_cons] at h
    have h2 : s.drop (q + 1) = (47 :: (e.1.map nameC).flatten) ++ (32 :: (txt e.2 ++ restD r R)) := drop_more (A := [32]) h
    have hn := nx_nameA (tailN_cons space32) h2
    refine noRef_kind ?_
    rw [nx_space h, hn]
    simp

theorem good_mem {l : List Ob} {deep : Int} : saneFs l (deep + 1) = 0 → plainL l = true → wfOs l → 0 ≤ deep → ∀ o ∈ l, Good o (deep + 1) := by
  induction l with
  | nil => intro _ _ _ _ o ho; simp at ho
  | cons a r ih =>
    intro hs hp hw h0 o ho
    unfold saneFs at hs
    unfold plainL at hp
    unfold wfOs at hw
    simp only [Bool.and_eq_true] at hp
    have h1 : saneF a (deep + 1) = 0 := by
      rcases Decidable.em (saneF a (deep + 1) = 0) with h | h
      · exact h
      · rw [if_pos h] at hs; exact absurd hs h
    rw [if_neg (by simp [h1])] at hs
    rcases List.mem_cons.mp ho with rfl | ho
    · refine ⟨hp.1, h1, hw.1, fun h8 => ?_⟩
      obtain ⟨k, n, f, s, l, d⟩ := o
      unfold Ob.kind at h8
      simp only at h8
      subst h8
      rw [saneF] at h1
      have e : shapeF 8 n f d (deep + 1) = 1 := by unfold shapeF; rw [if_pos rfl, if_pos (by omega)]
      rw [e] at h1
      simp at h1
    · exact ih hs hp.2 hw.2 h0 o ho

theorem good_memD {l : List (List UInt8 × Ob)} {deep : Int} : saneFd l (deep + 1) = 0 → plainD l = true → wfDs l → 0 ≤ deep → ∀ e ∈ l, Good e.2 (deep + 1) := by
  induction l with
  | nil => intro _ _ _ _ o ho; simp at ho
  | cons a r ih =>
    intro hs hp hw h0 e he
    obtain ⟨key, a⟩ := a
    unfold saneFd saneFe at hs
    unfold plainD plainE at hp
    unfold wfDs wfE at hw
    simp only [Bool.and_eq_true] at hp
    have h1 : saneF a (deep + 1) = 0 := by
      rcases Decidable.em (saneF a (deep + 1) = 0) with h | h
      · exact h
      · rw [if_pos h] at hs; exact absurd hs h
    rw [if_neg (by simp [h1])] at hs
    rcases List.mem_cons.mp he with rfl | he
    · refine ⟨hp.1, h1, hw.1.2, fun h8 => ?_⟩
      obtain ⟨k, n, f, s, l, d⟩ := a
      unfold Ob.kind at h8
      simp only at h8
      subst h8
      rw [saneF] at h1
      have e : shapeF 8 n f d (deep + 1) = 1 := by unfold shapeF; rw [if_pos rfl, if_pos (by omega)]
      rw [e] at h1
      simp at h1
    · exact ih hs hp.2 hw.2 h0 e he

theorem ixK_none {key : List UInt8} : ∀ (d : List (List UInt8 × Ob)) (i : Int), (∀ e ∈ d, e.1 ≠ key) → ixK key d i = -1
  | [], i, _ => rfl
  | e :: r, i, h => by
    unfold ixK
    rw [if_neg (h e (List.mem_cons_self ..))]
    exact ixK_none r _ fun x hx => h x (List.mem_cons_of_mem _ hx)
theorem setD_new {d : List (List UInt8 × Ob)} {key : List UInt8} {v : Ob} (hv : v.kind ≠ 0) (h : ∀ e ∈ d, e.1 ≠ key) : setD d key v = d ++ [(key, v)] := by
  unfold setD
  rw [if_neg hv, ixK_none d 0 h, if_pos (by decide), dropD_none h]

theorem entL_cons {met : List (List UInt8)} {e : List UInt8 × Ob} {r : List (List UInt8 × Ob)} (h : entL met (e :: r) = 0) : e.2.kind ≠ 0 ∧ e.1 ∉ met ∧ entL (met ++ [e.1]) r = 0 := by
  unfold entL at h
  by_cases hc : e.2.kind = 0 ∨ e.1 ∈ met
  · rw [if_pos hc] at h; exact absurd h (by decide)
  · rw [if_neg hc] at h; exact ⟨fun x => hc (.inl x), fun x => hc (.inr x), h⟩

theorem objR_word {s : List UInt8} {p : Nat} {r : Nat} {t : Tok} (h : nextL s p = (t, 0)) (hk : t.kind = 8) : objR (ofL s r) s p = ((wordO t.s).1, (t.to : Int), (wordO t.s).2) := by
  unfold objR
  rw [h, if_neg (by simp)]
  cases r with
  | zero => rw [ofL_zero]; unfold ofB; simp [hk]
  | succ r => rw [ofL_succ]; unfold ofB; simp [hk]
theorem objR_name {s : List UInt8} {p : Nat} {r : Nat} {t : Tok} (h : nextL s p = (t, 0)) (hk : t.kind = 2) : objR (ofL s r) s p = (Ob.mk 3 0 0 t.s [] [], (t.to : Int), 0) := by
  unfold objR
  rw [h, if_neg (by simp)]
  cases r with
  | zero => rw [ofL_zero]; unfold ofB; simp [hk]
  | succ r => rw [ofL_succ]; unfold ofB; simp [hk]
theorem objR_text {s : List UInt8} {p : Nat} {r : Nat} {t : Tok} (h : nextL s p = (t, 0)) (hk : t.kind = 3) : objR (ofL s r) s p = (Ob.mk 4 0 0 t.s [] [], (t.to : Int), 0) := by
  unfold objR
  rw [h, if_neg (by simp)]
  cases r with
  | zero => rw [ofL_zero]; unfold ofB; simp [hk]
  | succ r => rw [ofL_succ]; unfold ofB; simp [hk]
theorem objR_num {s : List UInt8} {p : Nat} {r : Nat} {t : Tok} (h : nextL s p = (t, 0)) (hk : t.kind = 1) : objR (ofL s r) s p = ((numO s t t.to).1, (numO s t t.to).2, 0) := by
  unfold objR
  rw [h, if_neg (by simp)]
  cases r with
  | zero => rw [ofL_zero]; unfold ofB; simp [hk]
  | succ r => rw [ofL_succ]; unfold ofB; simp [hk]

theorem arr_more (f : Tok → Int → PR) (s : List UInt8) (p : Int) (n : Nat) (acc : List Ob) (o : Ob) (q : Int) (hn : (nextL s p).2 = 0) (hk : (nextL s p).1.kind ≠ 5) (hl : acc.length ≠ 1024) (h : objR f s p = (o, q, 0)) : arrL f s (n + 1) p acc = arrL f s n q (acc ++ [o]) := by
  unfold objR at h
  rw [if_neg (by simp [hn])] at h
  rw [arrL, if_neg (by simp [hn]), if_neg hk, if_neg (by simp [hl]), h]
  simp

theorem back : ∀ (N : Nat) (o : Ob) (lv : Nat) (deep : Int) (s R : List UInt8) (p : Nat), sizeOf o < N → 0 ≤ deep → (lv : Int) + deep = 64 → Good o deep → tailN R → s.drop p = txt o ++ R → (o.kind = 2 → noRef s (p + (txt o).length)) → objR (ofL s lv) s p = (o, ((p + (txt o).length : Nat) : Int), 0)
  | 0, _, _, _, _, _, _, h, _, _, _, _, _, _ => by omega
  | N + 1, .mk k n f t l d, lv, deep, s, R, p, hN, h0, hlv, hg, hR, h, hnr => by
    simp at hN
    rcases good_parts hg with ⟨rfl, rfl, rfl, rfl, rfl, rfl⟩ | ⟨rfl, hn, rfl, rfl, rfl, rfl⟩ | ⟨rfl, hf, hn, rfl, rfl, rfl⟩ | ⟨rfl, rfl, rfl, rfl, rfl⟩ | ⟨rfl, rfl, rfl, rfl, rfl⟩ | ⟨rfl, rfl, rfl, rfl, rfl, hl, hdp, hs, hp, hw⟩ | ⟨rfl, rfl, rfl, rfl, rfl, hl, hdp, he, hs, hp, hw⟩ | ⟨rfl, h0n, h1, hf, hf0, hfm, rfl, rfl, rfl⟩
    · have e : txt (.mk 0 0 0 [] [] []) = [110, 117, 108, 108] := by simp [txt]
      rw [e] at h ⊢
      rw [objR_word (nx_word (c := 110) (w := [117, 108, 108]) (by decide) hR h) rfl]
      simp [wordO]
    · rcases hn with rfl | rfl
      · have e : txt (.mk 1 0 0 [] [] []) = [102, 97, 108, 115, 101] := by simp [txt]
        rw [e] at h ⊢
        rw [objR_word (nx_word (c := 102) (w := [97, 108, 115, 101]) (by decide) hR h) rfl]
        simp [wordO]
      · have e : txt (.mk 1 1 0 [] [] []) = [116, 114, 117, 101] := by simp [txt]
        rw [e] at h ⊢
        rw [objR_word (nx_word (c := 116) (w := [114, 117, 101]) (by decide) hR h) rfl]
        simp [wordO]
    · have e : txt (.mk 2 n f [] [] []) = numT n f := by simp [txt]
      rw [e] at h hnr ⊢
      have hx := nx_num hf hn hR h
      have hnr := hnr rfl
      rw [objR_num hx rfl]
      have e2 : numO s ⟨1, f, [], decide (n = 1), p, p + (numT n f).length⟩ ((p + (numT n f).length : Nat) : Int) = (.mk 2 n f [] [] [], ((p + (numT n f).length : Nat) : Int)) := by
        unfold numO
        rw [if_neg (fun h => hnr h.2.1 h.2.2.1 h.2.2.2.1 h.2.2.2.2)]
        rcases hn with rfl | ⟨rfl, _⟩ <;> simp
      simp only
      rw [e2]
    · have e : txt (.mk 3 0 0 t [] []) = 47 :: (t.map nameC).flatten := by simp [txt]
      rw [e] at h ⊢
      rw [objR_name (nx_nameA hR h) rfl]
    · have e : txt (.mk 4 0 0 t [] []) = 40 :: (t.map quoteC).flatten ++ [41] := by simp [txt]
      rw [e] at h ⊢
      rw [objR_text (nx_quoteA h) rfl]
    · -- an array
      have e : txt (.mk 5 0 0 [] l []) = [91] ++ joinT (txtL l) ++ [93] := by simp [txt]
      rw [e] at h ⊢
      obtain ⟨lv, rfl⟩ : ∃ m, lv = m + 1 := ⟨lv - 1, by omega⟩
      have hgm := good_mem hs hp hw h0
      have h1 : s.drop p = 91 :: (joinT (txtL l) ++ (93 :: R)) := by rw [h]; simp
      rw [obj_arr lv h1]
      have h2 : s.drop (p + 1) = joinT (txtL l) ++ (93 :: R) := drop_more (A := [91]) h1
      -- the rest, behind the first
      have rest : ∀ (m : List Ob) (acc : List Ob) (q fu : Nat), (∀ o ∈ m, o ∈ l) → acc.length + m.length = l.length → m.length + 1 ≤ fu → s.drop q = restL m R → arrL (ofL s lv) s fu q acc = (.mk 5 0 0 [] (acc ++ m) [], ((q + (restL m R).length - R.length : Nat) : Int), 0) := by
        intro m
        induction m with
        | nil =>
          intro acc q fu _ _ hfu hq
          obtain ⟨fu, rfl⟩ : ∃ m, fu = m + 1 := ⟨fu - 1, by simp at hfu; omega⟩
          have hq : s.drop q = 93 :: R := hq
          rw [arr_end _ _ _ fu ob00 _ acc _ (nx_close hq), List.append_nil]
          simp [restL, txtL]; omega
        | cons a m ih =>
          intro acc q fu hm hlen hfu hq
          simp only [List.length_cons] at hlen hfu
          obtain ⟨fu, rfl⟩ : ∃ m, fu = m + 1 := ⟨fu - 1, by omega⟩
          rw [restL_cons] at hq
          have ha := hm a (List.mem_cons_self ..)
          have hga := hgm a ha
          have hq2 : s.drop (q + 1) = txt a ++ restL m R := drop_more (A := [32]) hq
          have hq3 := drop_more hq2
          have hns := restL_noRef m _ (fun o ho => hgm o (hm o (List.mem_cons_of_mem _ ho))) hq3
          have hb := back N a lv (deep + 1) s (restL m R) (q + 1) (by have := List.sizeOf_lt_of_mem ha; omega) (by omega) (by omega) hga (restL_tail m R) hq2 (fun _ => hns.1)
          obtain ⟨t, ht, k0, k5, _⟩ := firstT hga (restL_tail m R) hq2
          have hsp := nx_space hq
          have hb2 := (objR_next (ofL s lv) s _ _ hsp).2 (by rw [hb])
          rw [hb] at hb2
          rw [arr_more _ _ _ fu acc a _ (by rw [hsp, ht]) (by rw [hsp, ht]; exact k5) (by omega) hb2, ih _ _ fu (fun o ho => hm o (List.mem_cons_of_mem _ ho)) (by simp; omega) (by omega) hq3]
          rw [restL_cons, List.append_assoc]
          simp
          omega
      cases l with
      | nil =>
        have h2 : s.drop (p + 1) = restL [] R := by rw [h2]; simp [txtL, joinT, restL]
        rw [rest [] [] (p + 1) 1025 (by simp) (by simp) (by simp) h2]
        simp [restL, txtL, joinT]; omega
      | cons a m =>
        have h2 : s.drop (p + 1) = txt a ++ restL m R := by rw [h2]; simp [txtL, joinT, restL]
        have hga := hgm a (List.mem_cons_self ..)
        have h3 := drop_more h2
        have hns := restL_noRef m _ (fun o ho => hgm o (List.mem_cons_of_mem _ ho)) h3
        simp at hN hl
        have hb := back N a lv (deep + 1) s (restL m R) (p + 1) (by omega) (by omega) (by omega) hga (restL_tail m R) h2 (fun _ => hns.1)
        obtain ⟨t, ht, k0, k5, _⟩ := firstT hga (restL_tail m R) h2
        rw [arr_more _ _ _ 1024 [] a _ (by rw [ht]) (by rw [ht]; exact k5) (by simp) hb, List.nil_append, rest m [a] _ 1024 (fun o ho => List.mem_cons_of_mem _ ho) (by simp; omega) (by omega) h3]
        simp [restL, txtL, joinT]; omega
    · -- a dictionary
      have e : txt (.mk 6 0 0 [] [] d) = [60, 60] ++ joinT (txtD d) ++ [62, 62] := by simp [txt]
      rw [e] at h ⊢
      obtain ⟨lv, rfl⟩ : ∃ m, lv = m + 1 := ⟨lv - 1, by omega⟩
      have hgm := good_memD hs hp hw h0
      have h1 : s.drop p = 60 :: 60 :: (joinT (txtD d) ++ (62 :: 62 :: R)) := by rw [h]; simp
      rw [obj_dic lv h1]
      have h2 : s.drop (p + 2) = joinT (txtD d) ++ (62 :: 62 :: R) := drop_more (A := [60, 60]) h1
      -- one entry
      have one : ∀ (e : List UInt8 × Ob) (m : List (List UInt8 × Ob)) (acc : List (List UInt8 × Ob)) (q0 : Int) (q fu : Nat), e ∈ d → e.2.kind ≠ 0 → e.1 ∉ acc.map (·.1) → nextL s q0 = nextL s q → s.drop q = (47 :: (e.1.map nameC).flatten) ++ (32 :: (txt e.2 ++ restD m R)) →
          dicL (ofL s lv) s (fu + 2) q0 acc = dicL (ofL s lv) s (fu + 1) ((q + (txtE e).length : Nat) : Int) (acc ++ [e]) ∧ s.drop (q + (txtE e).length) = restD m R := by
        intro e m acc q0 q fu he hk hnm hq0 hq
        have hge := hgm e he
        have hx := nx_nameA (tailN_cons space32) hq
        have hq2 := drop_more hq
        have hq3 : s.drop (q + (47 :: (e.1.map nameC).flatten).length + 1) = txt e.2 ++ restD m R := drop_more (A := [32]) hq2
        have hq4 := drop_more hq3
        have hns := restD_noRef m _ hq4
        have hsz : sizeOf e.2 < N := by
          have h1 := List.sizeOf_lt_of_mem he
          have h2 : sizeOf e.2 < sizeOf e := by obtain ⟨a, o⟩ := e; simp; omega
          omega
        have hb := back N e.2 lv (deep + 1) s (restD m R) _ hsz (by omega) (by omega) hge (restD_tail m R) hq3 (fun _ => hns)
        have hb2 := (objR_next (ofL s lv) s _ _ (nx_space hq2)).2 (by rw [hb])
        rw [hb] at hb2
        have hst := dic_step (ofL s lv) s q0 fu acc _ _ e.1 e.2 _ (hq0.trans hx) hb2
        have hlen : q + (47 :: (e.1.map nameC).flatten).length + 1 + (txt e.2).length = q + (txtE e).length := by
          obtain ⟨a, o⟩ := e; simp [txtE]; omega
        rw [hlen] at hst hq4
        refine ⟨?_, hq4⟩
        rw [hst, setD_new hk (fun x hx hxe => hnm (List.mem_map.mpr ⟨x, hx, hxe⟩))]
      have rest : ∀ (m : List (List UInt8 × Ob)) (acc : List (List UInt8 × Ob)) (q fu : Nat), (∀ o ∈ m, o ∈ d) → entL (acc.map (·.1)) m = 0 → m.length + 1 ≤ fu → s.drop q = restD m R → dicL (ofL s lv) s fu q acc = (.mk 6 0 0 [] [] (acc ++ m), ((q + (restD m R).length - R.length : Nat) : Int), 0) := by
        intro m
        induction m with
        | nil =>
          intro acc q fu _ _ hfu hq
          obtain ⟨fu, rfl⟩ : ∃ m, fu = m + 1 := ⟨fu - 1, by simp at hfu; omega⟩
          have hq : s.drop q = 62 :: 62 :: R := hq
          rw [dic_end _ _ _ fu _ acc _ (nx_dclose hq), List.append_nil]
          simp [restD, txtD]; omega
        | cons a m ih =>
          intro acc q fu hm hen hfu hq
          simp only [List.length_cons] at hfu
          obtain ⟨fu, rfl⟩ : ∃ m, fu = m + 2 := ⟨fu - 2, by omega⟩
          obtain ⟨hk, hnm, hen⟩ := entL_cons hen
          rw [restD_cons] at hq
          have hq2 : s.drop (q + 1) = _ := drop_more (A := [32]) hq
          obtain ⟨o1, o2⟩ := one a m acc q (q + 1) fu (hm a (List.mem_cons_self ..)) hk hnm (nx_space hq) hq2
          rw [o1, ih _ _ (fu + 1) (fun o ho => hm o (List.mem_cons_of_mem _ ho)) (by rw [List.map_append]; exact hen) (by omega) o2]
          rw [restD_cons, List.append_assoc]
          obtain ⟨a1, a2⟩ := a
          simp [txtE]
          omega
      cases d with
      | nil =>
        have h2 : s.drop (p + 2) = restD [] R := by rw [h2]; simp [txtD, joinT, restD]
        rw [rest [] [] (p + 2) 1025 (by simp) rfl (by simp) h2]
        simp [restD, txtD, joinT]; omega
      | cons a m =>
        obtain ⟨hk, hnm, hen⟩ := entL_cons he
        have h2 : s.drop (p + 2) = (47 :: (a.1.map nameC).flatten) ++ (32 :: (txt a.2 ++ restD m R)) := by
          rw [h2]; obtain ⟨a1, a2⟩ := a; simp [txtD, txtE, joinT, restD]
        simp at hl
        obtain ⟨o1, o2⟩ := one a m [] ((p + 2 : Nat) : Int) (p + 2) 1023 (List.mem_cons_self ..) hk (by simp) rfl h2
        rw [o1, rest m _ _ 1024 (fun o ho => List.mem_cons_of_mem _ ho) (by simpa using hen) (by omega) o2]
        obtain ⟨a1, a2⟩ := a
        simp [restD, txtD, txtE, joinT]; omega
    · -- a reference
      have e : txt (.mk 7 n f [] [] []) = Lib.itoa n ++ ([32] ++ (numT 1 f ++ ([32, 82] : List UInt8))) := by simp [txt, numT1 hfm]
      rw [e] at h ⊢
      rw [itoa_dec h0n, List.append_assoc] at h
      have hn1 := nx_itoa (n := n.toNat) (by omega) (tailN_cons (R := numT 1 f ++ [32, 82] ++ R) space32) (by rw [h]; simp)
      have h2 : s.drop (p + (Lib.decDigits n.toNat).length) = 32 :: (numT 1 f ++ (32 :: 82 :: R)) := by
        have := drop_more h; rw [this]; simp
      have h3 : s.drop (p + (Lib.decDigits n.toNat).length + 1) = numT 1 f ++ (32 :: 82 :: R) := drop_more (A := [32]) h2
      have hn2 := nx_num (n := 1) hf (.inr ⟨rfl, hfm⟩) (tailN_cons space32) h3
      have h4 := drop_more h3
      have h5 : s.drop (p + (Lib.decDigits n.toNat).length + 1 + (numT 1 f).length + 1) = 82 :: R := drop_more (A := [32]) h4
      have hn3 := nx_R h5 hR
      have s1 := nx_space h2
      have s2 := nx_space h4
      rw [objR_num hn1 rfl]
      simp only
      have e2 : numO s ⟨1, 1000 * (n.toNat : Int), [], true, p, p + (Lib.decDigits n.toNat).length⟩ ((p + (Lib.decDigits n.toNat).length : Nat) : Int) = (.mk 7 n f [] [] [], ((p + (Lib.decDigits n.toNat).length + 1 + (numT 1 f).length + 1 + 1 : Nat) : Int)) := by
        unfold numO
        rw [s1, hn2]
        simp only
        rw [s2, hn3]
        rw [if_pos ⟨by simp [wholeT]; omega, by simp, by simp [wholeT]; omega, by simp, by simp, by simp⟩]
        have : (1000 * (n.toNat : Int)).tdiv 1000 = n := by
          rw [Int.mul_comm, Int.mul_tdiv_cancel _ (by decide)]; omega
        simp only
        rw [this]
      rw [e2, itoa_dec h0n]
      simp
      omega
end Ink.D
