import Derived.Test.YtogcalejbddjjaaGreatDoorPWrE
import Derived.Test.YtogcalejbddjjaaGreatDoorPCosC
import Derived.Test.YtogcalejbddjjaaGreatDoorPLexC
set_option linter.all false
namespace Ink.D
open Go Go.Proofs
set_option maxRecDepth 100000

/-! a number that is written is read -/
theorem snocInd {α : Type} {P : List α → Prop} (h0 : P []) (h1 : ∀ l a, P l → P (l ++ [a])) (l : List α) : P l := by
  have : ∀ r : List α, P r.reverse := by
    intro r
    induction r with
    | nil => exact h0
    | cons a r ih => rw [List.reverse_cons]; exact h1 _ _ ih
  have := this l.reverse
  rwa [List.reverse_reverse] at this

theorem numL_app (a b : List UInt8) : numL (a ++ b) = numL a * 10 ^ b.length + numL b := by
  refine snocInd (P := fun b => numL (a ++ b) = numL a * 10 ^ b.length + numL b) ?_ ?_ b
  · simp [numL]
  · intro b c ih
    rw [← List.append_assoc, numL_snoc, ih, numL_snoc, List.length_append, List.length_singleton, Nat.pow_succ, ← Nat.mul_assoc]
    generalize numL a * 10 ^ b.length = q
    omega

theorem dig_of (k : Nat) (h : k < 10) : (UInt8.ofNat (48 + k)).toNat - 48 = k := by
  rw [UInt8.toNat_ofNat']; omega

theorem numL_dec (u : Nat) : numL (Lib.decDigits u) = u := by
  induction u using Nat.strongRecOn with
  | _ u ih =>
    by_cases h : u < 10
    · rw [Lib.decDigits_one h]
      show 0 * 10 + ((UInt8.ofNat (48 + u)).toNat - 48) = u
      rw [dig_of u h]; omega
    · rw [Lib.decDigits, dif_neg h, numL_snoc, ih (u / 10) (by omega), dig_of _ (by omega)]
      omega

theorem numL_zeros (n : Nat) : numL (List.replicate n 48) = 0 := by
  induction n with
  | zero => rfl
  | succ n ih => rw [List.replicate_succ', numL_snoc, ih]; rfl

theorem numL_lt : ∀ (l : List UInt8), l.all isDig = true → numL l < 10 ^ l.length := by
  refine snocInd ?_ ?_
  · intro _; simp [numL]
  · intro b c ih
    intro h
    rw [List.all_append, Bool.and_eq_true] at h
    have h1 := ih h.1
    have h2 := (sub48 c (by simpa using h.2)).2
    rw [numL_snoc, List.length_append, List.length_singleton, Nat.pow_succ]
    omega

theorem numL_zero : ∀ (l : List UInt8), l.all isDig = true → numL l = 0 → l = List.replicate l.length 48 := by
  refine snocInd ?_ ?_
  · intro _ _; rfl
  · intro b c ih
    intro h h0
    rw [List.all_append, Bool.and_eq_true] at h
    rw [numL_snoc] at h0
    have h1 := ih h.1 (by omega)
    have hc : isDig c = true := by simpa using h.2
    have hc2 : c = 48 := by
      simp only [isDig, Bool.and_eq_true, decide_eq_true_eq] at hc
      refine UInt8.toNat_inj.mp ?_
      show c.toNat = 48
      omega
    rw [List.length_append, List.length_singleton, List.replicate_succ', ← h1, hc2]

theorem rtrim_rep (l : List UInt8) : ∃ m, l = rtrim l 48 ++ List.replicate m 48 := by
  have key : ∀ r : List UInt8, ∃ m, r = List.replicate m 48 ++ r.dropWhile (· == 48) := by
    intro r
    induction r with
    | nil => exact ⟨0, rfl⟩
    | cons c r ih =>
      obtain ⟨m, hm⟩ := ih
      by_cases hc : c = 48
      · subst hc
        refine ⟨m + 1, ?_⟩
        rw [List.dropWhile_cons_of_pos (by simp), List.replicate_succ, List.cons_append, ← hm]
      · refine ⟨0, ?_⟩
        rw [List.dropWhile_cons_of_neg (by simpa using hc)]
        rfl
  obtain ⟨m, hm⟩ := key l.reverse
  refine ⟨m, ?_⟩
  have := congrArg List.reverse hm
  rw [List.reverse_reverse, List.reverse_append, List.reverse_replicate] at this
  exact this

theorem rtrim_dot (W P : List UInt8) : rtrim (W ++ [46] ++ P) 48 = W ++ [46] ++ rtrim P 48 := by
  unfold rtrim
  rw [List.reverse_append, List.reverse_append]
  have key : ∀ (a b : List UInt8), (∀ c r, b = c :: r → c ≠ 48) → (a ++ b).dropWhile (· == 48) = a.dropWhile (· == 48) ++ b := by
    intro a b hb
    induction a with
    | nil =>
      cases b with
      | nil => rfl
      | cons c r => rw [List.nil_append, List.dropWhile_cons_of_neg (by simpa using hb c r rfl)]; rfl
    | cons c r ih =>
      by_cases hc : c = 48
      · subst hc
        rw [List.cons_append, List.dropWhile_cons_of_pos (by simp), List.dropWhile_cons_of_pos (by simp), ih]
      · rw [List.cons_append, List.dropWhile_cons_of_neg (by simpa using hc), List.dropWhile_cons_of_neg (by simpa using hc)]; rfl
  rw [key _ _ (by intro c r h; simp at h; rw [← h.1]; decide)]
  rw [List.reverse_append, List.reverse_append, List.reverse_reverse]
  simp

structure NumT (f : Int) (W P : List UInt8) : Prop where
  w : W.all isDig = true
  p : P.all isDig = true
  w0 : W ≠ []
  wl : W.length ≤ 10
  p3 : P.length = 3
  v : numL (W ++ P) = f.natAbs

theorem fixB_num (f : Int) (hf : mayF f = true) : ∃ W P, fixB f = W ++ P ∧ NumT f W P := by
  have hm : -2147483648 ≤ f ∧ f ≤ 2147483648 := by simpa [mayF] using hf
  obtain ⟨hd, hp⟩ := dec_dig f.natAbs
  have hv := numL_dec f.natAbs
  have hl : (Lib.decDigits f.natAbs).length ≤ 10 := dec_len 9 _ (by omega)
  have hB : (fixB f).all isDig = true ∧ 4 ≤ (fixB f).length ∧ (fixB f).length ≤ 10 ∧ numL (fixB f) = f.natAbs := by
    unfold fixB
    by_cases h3 : (Lib.decDigits f.natAbs).length ≤ 3
    · rw [if_pos h3]
      have hr : Lib.repeatL [48] (4 - (Lib.decDigits f.natAbs).length) = List.replicate (4 - (Lib.decDigits f.natAbs).length) 48 := by
        generalize 4 - (Lib.decDigits f.natAbs).length = n
        induction n with
        | zero => rfl
        | succ n ih => rw [List.replicate_succ, ← ih]; rfl
      rw [hr]
      refine ⟨?_, by simp; omega, by simp; omega, ?_⟩
      · rw [List.all_append, hd, Bool.and_true, List.all_replicate]; simp; right; decide
      · rw [numL_app, numL_zeros, hv]; omega
    · rw [if_neg h3]
      exact ⟨hd, by omega, hl, hv⟩
  obtain ⟨h1, h2, h3, h4⟩ := hB
  refine ⟨(fixB f).take ((fixB f).length - 3), (fixB f).drop ((fixB f).length - 3), by simp, ?_⟩
  refine ⟨?_, ?_, ?_, by simp; omega, by simp; omega, by rw [List.take_append_drop]; exact h4⟩
  · rw [List.all_eq_true] at h1 ⊢
    exact fun c hc => h1 c (List.mem_of_mem_take hc)
  · rw [List.all_eq_true] at h1 ⊢
    exact fun c hc => h1 c (List.mem_of_mem_drop hc)
  · intro h
    have := congrArg List.length h
    simp at this; omega

theorem fixO_dot (W Q : List UInt8) (hQ : Q.all isDig = true) : fixO (W ++ [46] ++ Q) = if Q = [] then W else W ++ [46] ++ Q := by
  unfold fixO
  by_cases h : Q = []
  · subst h
    rw [if_pos rfl, List.append_nil]
    have : sufB (W ++ [46]) [46] = true := by unfold sufB; simp
    rw [this]
    simp
  · rw [if_neg h]
    have : sufB (W ++ [46] ++ Q) [46] = false := by
      unfold sufB
      obtain ⟨a, c, rfl⟩ : ∃ a c, Q = a ++ [c] := ⟨Q.dropLast, Q.getLast h, (List.dropLast_concat_getLast h).symm⟩
      rw [List.all_append] at hQ
      have hc : c ≠ 46 := by
        intro e; subst e
        have : isDig 46 = false := by decide
        simp [this] at hQ
      have e : W ++ [46] ++ (a ++ [c]) = (W ++ [46] ++ a) ++ [c] := by simp
      rw [e]
      have e2 : (W ++ [46] ++ a ++ [c]).length - ([46] : List UInt8).length = (W ++ [46] ++ a).length := by simp
      rw [e2, List.drop_left]
      simp [hc]
    rw [this]
    rfl

theorem printL_num (f : Int) (hf : mayF f = true) : ∃ W P, NumT f W P ∧ printL f = (if f < 0 then [45] else []) ++ (if rtrim P 48 = [] then W else W ++ [46] ++ rtrim P 48) := by
  obtain ⟨W, P, hB, hN⟩ := fixB_num f hf
  refine ⟨W, P, hN, ?_⟩
  have hl : (fixB f).length - 3 = W.length := by rw [hB, List.length_append, hN.p3]; omega
  have e : fixO (fixP (fixB f)) = if rtrim P 48 = [] then W else W ++ [46] ++ rtrim P 48 := by
    unfold fixP
    rw [hl, hB, List.take_left, List.drop_left, rtrim_dot]
    refine fixO_dot W _ ?_
    obtain ⟨m, hm⟩ := rtrim_rep P
    have := hN.p
    rw [hm, List.all_append, Bool.and_eq_true] at this
    exact this.1
  unfold printL
  rw [e]
  by_cases h : f < 0
  · rw [if_pos h, if_pos h]; rfl
  · rw [if_neg h, if_neg h]; rfl

theorem cutL_none (W : List UInt8) (h : W.all isDig = true) : cutL W 46 = (W, [], false) := by
  induction W with
  | nil => rfl
  | cons c r ih =>
    simp only [List.all_cons, Bool.and_eq_true] at h
    have hc : c ≠ 46 := by intro e; subst e; have : isDig 46 = false := by decide
                           rw [this] at h; exact absurd h.1 (by decide)
    unfold cutL
    rw [if_neg hc, ih h.2]
theorem cutL_dot (W Q : List UInt8) (h : W.all isDig = true) : cutL (W ++ [46] ++ Q) 46 = (W, Q, true) := by
  induction W with
  | nil => simp [cutL]
  | cons c r ih =>
    simp only [List.all_cons, Bool.and_eq_true] at h
    have hc : c ≠ 46 := by intro e; subst e; have : isDig 46 = false := by decide
                           rw [this] at h; exact absurd h.1 (by decide)
    rw [List.cons_append, List.cons_append, cutL, if_neg hc, ih h.2]

theorem dig_ne (c : UInt8) (h : isDig c = true) : c ≠ 45 ∧ c ≠ 43 ∧ c ≠ 46 ∧ isReg c = true ∧ c ∈ numStart := by
  revert h
  revert c
  have key : ∀ c : UInt8, (!isDig c || decide (c ≠ 45 ∧ c ≠ 43 ∧ c ≠ 46 ∧ isReg c = true ∧ c ∈ numStart)) = true := by
    intro c
    revert c
    refine u8all ?_
    decide +kernel
  intro c h
  have := key c
  rw [h] at this
  simpa using this

def signT (m : Bool) : List UInt8 := if m then [45] else []

theorem uns_sign (m : Bool) (W X : List UInt8) (h : W.all isDig = true) (h0 : W ≠ []) : unsL (signT m ++ (W ++ X)) = (W ++ X, m) := by
  cases m with
  | true => simp [signT, unsL]
  | false =>
    match W, h0 with
    | c :: r, _ =>
      simp only [List.all_cons, Bool.and_eq_true] at h
      obtain ⟨h1, h2, _⟩ := dig_ne c h.1
      simp [signT, unsL, h1, h2]

theorem parse_num {W Q : List UInt8} (m : Bool) (hW : W.all isDig = true) (h0 : W ≠ []) (hQ : Q.all isDig = true) (hw : W.length ≤ 10) (hq : Q.length ≤ 3) (v : Nat) (hv : numL (W ++ (Q ++ List.replicate (3 - Q.length) 48)) = v) (hm : v ≤ 2147483648) (X : List UInt8) (hX : X = [46] ++ Q ∨ (X = [] ∧ Q = [])) :
    parseL (signT m ++ (W ++ X)) = (if m then -(v : Int) else v, 0) := by
  have hl : (signT m ++ (W ++ X)).length ≤ 400 := by
    have : (signT m).length ≤ 1 := by cases m <;> simp [signT]
    have : X.length ≤ 4 := by rcases hX with rfl | ⟨rfl, rfl⟩ <;> simp; omega
    simp only [List.length_append]; omega
  have hc : (cutL (W ++ X) 46).1 = W ∧ (cutL (W ++ X) 46).2.1 = Q := by
    rcases hX with rfl | ⟨rfl, rfl⟩
    · rw [← List.append_assoc, cutL_dot W Q hW]; exact ⟨rfl, rfl⟩
    · rw [List.append_nil, cutL_none W hW]; exact ⟨rfl, rfl⟩
  unfold parseL
  rw [if_neg (by omega), uns_sign m W X hW h0, hc.1, hc.2]
  unfold parseW
  rw [if_pos ⟨hW, hQ, by simp [h0]⟩]
  have ht : (Q ++ [48, 48, 48]).take 3 = Q ++ List.replicate (3 - Q.length) 48 := by
    match Q, hq with
    | [], _ => rfl
    | [_], _ => rfl
    | [_, _], _ => rfl
    | [_, _, _], _ => rfl
    | _ :: _ :: _ :: _ :: _, h => simp at h
  have hn : numW W Q = v := by
    unfold numW
    rw [ht, hv, if_neg (by omega)]
    omega
  rw [hn]
  unfold told
  cases m with
  | true =>
    rw [if_pos (by unfold mayF; simp; omega)]
    simp
  | false =>
    rw [if_pos (by unfold mayF; simp; omega)]
    simp

theorem word_num {W Q X : List UInt8} (m : Bool) (hW : W.all isDig = true) (h0 : W ≠ []) (hQ : Q.all isDig = true) (hw : W.length ≤ 10) (hq : Q.length ≤ 3) (v : Nat) (hv : numL (W ++ (Q ++ List.replicate (3 - Q.length) 48)) = v) (hm : v ≤ 2147483648) (hX : X = [46] ++ Q ∨ (X = [] ∧ Q = []))
    {s R : List UInt8} {p : Nat} (hR : ∀ c r, R = c :: r → isReg c = false) (h : s.drop p = signT m ++ (W ++ X) ++ R) :
    nextL s p = (⟨1, if m then -(v : Int) else v, [], decide (X = []), p, p + (signT m ++ (W ++ X)).length⟩, 0) := by
  have hall : (signT m ++ (W ++ X)).all isReg = true := by
    have d : ∀ l : List UInt8, l.all isDig = true → l.all isReg = true := fun l hl => by
      rw [List.all_eq_true] at hl ⊢
      exact fun c hc => (dig_ne c (hl c hc)).2.2.2.1
    rw [List.all_append, List.all_append, d W hW]
    have h1 : (signT m).all isReg = true := by cases m <;> decide
    have h2 : X.all isReg = true := by
      rcases hX with rfl | ⟨rfl, _⟩
      · rw [List.all_append, d Q hQ]; decide
      · rfl
    rw [h1, h2]; rfl
  have htw := tw_all isReg _ R hall hR
  obtain ⟨c, t, hct, hcn, hcw⟩ : ∃ c t, signT m ++ (W ++ X) = c :: t ∧ c ∈ numStart ∧ (isWhite c = false ∧ c ≠ 37 ∧ [91].isPrefixOf (c :: (t ++ R)) = false ∧ [93].isPrefixOf (c :: (t ++ R)) = false ∧ [60, 60].isPrefixOf (c :: (t ++ R)) = false ∧ [62, 62].isPrefixOf (c :: (t ++ R)) = false ∧ c ≠ 47 ∧ c ≠ 40 ∧ c ≠ 60 ∧ isDelim c = false) := by
    have key : ∀ c : UInt8, (!decide (c ∈ numStart) || decide (isWhite c = false ∧ c ≠ 37 ∧ c ≠ 91 ∧ c ≠ 93 ∧ c ≠ 60 ∧ c ≠ 62 ∧ c ≠ 47 ∧ c ≠ 40 ∧ isDelim c = false)) = true := by
      intro c
      revert c
      refine u8all ?_
      decide +kernel
    have all : ∀ c t, c ∈ numStart → (isWhite c = false ∧ c ≠ 37 ∧ [91].isPrefixOf (c :: (t ++ R)) = false ∧ [93].isPrefixOf (c :: (t ++ R)) = false ∧ [60, 60].isPrefixOf (c :: (t ++ R)) = false ∧ [62, 62].isPrefixOf (c :: (t ++ R)) = false ∧ c ≠ 47 ∧ c ≠ 40 ∧ c ≠ 60 ∧ isDelim c = false) := by
      intro c t hc
      have hk := key c
      rw [decide_eq_true hc] at hk
      simp only [Bool.not_true, Bool.false_or, decide_eq_true_eq] at hk
      obtain ⟨k1, k2, k3, k4, k5, k6, k7, k8, k9⟩ := hk
      have pf : ∀ (a : UInt8) (l m : List UInt8), c ≠ a → List.isPrefixOf (a :: l) (c :: m) = false := fun a l m h => by
        have : (a == c) = false := by simpa using h.symm
        simp [List.isPrefixOf, this]
      exact ⟨k1, k2, pf _ _ _ k3, pf _ _ _ k4, pf _ _ _ k5, pf _ _ _ k6, k7, k8, k5, k9⟩
    cases m with
    | true => exact ⟨45, W ++ X, rfl, by decide, all 45 (W ++ X) (by decide)⟩
    | false =>
      match W, h0 with
      | c :: r, _ =>
        simp only [List.all_cons, Bool.and_eq_true] at hW
        exact ⟨c, r ++ X, rfl, (dig_ne c hW.1).2.2.2.2, all c (r ++ X) (dig_ne c hW.1).2.2.2.2⟩
  obtain ⟨w1, w2, w3, w4, w5, w6, w7, w8, w9, w10⟩ := hcw
  have hp := parse_num m hW h0 hQ hw hq v hv hm X hX
  have hdot : decide (46 ∈ signT m ++ (W ++ X)) = !decide (X = []) := by
    have nW : 46 ∉ W := fun hc => by
      have := List.all_eq_true.mp hW 46 hc
      exact absurd this (by decide)
    have nS : 46 ∉ signT m := by cases m <;> decide
    rcases hX with rfl | ⟨rfl, _⟩
    · simp
    · simp [nW, nS]
  rw [hct] at h hp htw hdot ⊢
  rw [List.cons_append] at h htw
  have htok : tokL (c :: (t ++ R)) p = (⟨1, if m then -(v : Int) else v, [], decide (X = []), p, p + (c :: t).length⟩, 0) := by
    rw [tokL_cons _ _ _ w3 w4 w5 w6]
    unfold tokR
    rw [if_neg w7, if_neg w8, if_neg w9, w10]
    simp only [Bool.false_eq_true, if_false]
    unfold wordL
    rw [htw]
    simp only [List.getD_cons_zero]
    rw [if_pos hcn, hp, hdot]
    simp
  rw [nextL_at h (drop_le h (by simp))]
  have hsk : skip (c :: (t ++ R)) false = 0 := by simp [skip, w1, w2]
  rw [hsk, if_neg (by simp)]
  simp only [List.drop_zero, Nat.add_zero]
  rw [htok]
  rfl

theorem nx_num {n f : Int} (hf : mayF f = true) (hn : n = 0 ∨ (n = 1 ∧ f.tmod 1000 = 0)) {s R : List UInt8} {p : Nat} (hR : ∀ c r, R = c :: r → isReg c = false) (h : s.drop p = numT n f ++ R) :
    nextL s p = (⟨1, f, [], decide (n = 1), p, p + (numT n f).length⟩, 0) := by
  have hm : -2147483648 ≤ f ∧ f ≤ 2147483648 := by simpa [mayF] using hf
  obtain ⟨W, P, hN, hpr⟩ := printL_num f hf
  obtain ⟨m, hmP⟩ := rtrim_rep P
  have hP3 := hN.p3
  have hQl : (rtrim P 48).length ≤ 3 := by have := rtrim_len P 48; omega
  have hml : m = 3 - (rtrim P 48).length := by
    have := congrArg List.length hmP
    rw [List.length_append, List.length_replicate] at this; omega
  have hPd := hN.p
  rw [hmP, List.all_append, Bool.and_eq_true] at hPd
  have hv : numL (W ++ (rtrim P 48 ++ List.replicate (3 - (rtrim P 48).length) 48)) = f.natAbs := by
    rw [← hml, ← hmP]; exact hN.v
  have hsv : (if decide (f < 0) = true then -(f.natAbs : Int) else f.natAbs) = f := by
    by_cases h : f < 0
    · rw [if_pos (by simpa using h)]; omega
    · rw [if_neg (by simpa using h)]; omega
  have hsg : (if f < 0 then [45] else []) = signT (decide (f < 0)) := by
    unfold signT
    by_cases h : f < 0
    · rw [if_pos h, if_pos (by simpa using h)]
    · rw [if_neg h, if_neg (by simpa using h)]
  rw [hsg] at hpr
  have hwhole : rtrim P 48 = [] ↔ f.tmod 1000 = 0 := by
    have hlt := numL_lt P hN.p
    rw [hP3] at hlt
    have hva := hN.v
    rw [numL_app, hP3] at hva
    have hz : f.tmod 1000 = 0 ↔ numL P = 0 := by
      have : f.natAbs % 1000 = numL P := by
        rw [← hva]
        omega
      have h9 : f.tmod 1000 = 0 ↔ f.natAbs % 1000 = 0 := by
        rw [← Int.dvd_iff_tmod_eq_zero, ← Int.natAbs_dvd_natAbs, Nat.dvd_iff_mod_eq_zero]; rfl
      rw [h9, this]
    rw [hz]
    constructor
    · intro h0
      rw [h0, List.nil_append] at hmP
      rw [hmP]; exact numL_zeros m
    · intro h0
      have := numL_zero P hN.p h0
      rw [hP3] at this
      rw [this]
      decide
  have fin : ∀ (X : List UInt8), (X = [46] ++ rtrim P 48 ∨ (X = [] ∧ rtrim P 48 = [])) → numT n f = signT (decide (f < 0)) ++ (W ++ X) → decide (X = []) = decide (n = 1) → nextL s p = (⟨1, f, [], decide (n = 1), p, p + (numT n f).length⟩, 0) := by
    intro X hX hnt hd
    rw [hnt] at h
    have := word_num (decide (f < 0)) hN.w hN.w0 hPd.1 hN.wl hQl f.natAbs hv (by omega) hX hR h
    rw [hsv, hd] at this
    rw [hnt]; exact this
  unfold numT at fin ⊢
  by_cases hw : rtrim P 48 = []
  · have hwf := hwhole.mp hw
    rw [if_pos hw] at hpr
    rcases hn with rfl | ⟨rfl, _⟩
    · -- a point, and a nought
      rw [if_pos ⟨rfl, hwf⟩] at fin ⊢
      unfold numT at h
      rw [if_pos ⟨rfl, hwf⟩] at h
      have hv0 : numL (W ++ ([48] ++ List.replicate (3 - ([48] : List UInt8).length) 48)) = f.natAbs := by
        rw [← hv, hw]; rfl
      rw [hpr] at h ⊢
      have e : signT (decide (f < 0)) ++ W ++ [46, 48] = signT (decide (f < 0)) ++ (W ++ [46, 48]) := by simp
      rw [e] at h ⊢
      have := word_num (Q := [48]) (X := [46, 48]) (decide (f < 0)) hN.w hN.w0 (by decide) hN.wl (by decide) f.natAbs hv0 (by omega) (.inl rfl) hR h
      rw [hsv] at this
      rw [this]
      rfl
    · rw [if_neg (by simp)] at fin ⊢
      exact fin [] (.inr ⟨rfl, hw⟩) (by rw [hpr]; simp) rfl
  · have hwf : ¬ f.tmod 1000 = 0 := fun h => hw (hwhole.mpr h)
    rw [if_neg hw] at hpr
    have hn0 : n = 0 := by rcases hn with h | ⟨_, h⟩; exact h; exact absurd h hwf
    rw [if_neg (fun h => hwf h.2)] at fin ⊢
    exact fin ([46] ++ rtrim P 48) (.inl rfl) (by rw [hpr]; simp) (by subst hn0; simp)

theorem nx_itoa {n : Nat} (hn : n ≤ 2147483) {s R : List UInt8} {p : Nat} (hR : ∀ c r, R = c :: r → isReg c = false) (h : s.drop p = Lib.decDigits n ++ R) :
    nextL s p = (⟨1, 1000 * n, [], true, p, p + (Lib.decDigits n).length⟩, 0) := by
  obtain ⟨hd, hp⟩ := dec_dig n
  have hl : (Lib.decDigits n).length ≤ 10 := dec_len 9 _ (by omega)
  have hv : numL (Lib.decDigits n ++ ([] ++ List.replicate (3 - ([] : List UInt8).length) 48)) = n * 1000 := by
    rw [numL_app, numL_dec]
    rfl
  have := word_num (Q := []) (X := []) false hd (by intro e; rw [e] at hp; simp at hp) (by rfl) hl (by decide) (n * 1000) hv (by omega) (.inr ⟨rfl, rfl⟩) hR (by simpa [signT] using h)
  rw [this]
  simp [signT]
  omega
end Ink.D
