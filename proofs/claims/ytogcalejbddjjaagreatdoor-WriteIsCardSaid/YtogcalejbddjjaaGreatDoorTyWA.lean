import Derived.Test.YtogcalejbddjjaaGreatDoorTyB1
set_option linter.all false
namespace Ink.D
open Go Go.Proofs
set_option maxRecDepth 100000
variable {E : Env} (hE : E.P = Tryz.prog)

/-! ref01.whole, May, Print -/
def d3 (r : Nat) : List UInt8 := [UInt8.ofNat (48 + r / 100), UInt8.ofNat (48 + r / 10 % 10), UInt8.ofNat (48 + r % 10)]
def fr3 (r : Nat) : List UInt8 := if r = 0 then [] else UInt8.ofNat (48 + r / 100) :: (if r % 100 = 0 then [] else UInt8.ofNat (48 + r % 100 / 10) :: (if r % 10 = 0 then [] else [UInt8.ofNat (48 + r % 10)]))
theorem fr3_eq : ∀ r, r < 1000 → fr3 r = rtrim (d3 r) 48 ∧ (fr3 r = [] ↔ r = 0) ∧ (d3 r).all isDig = true ∧ (rtrim (d3 r) 48).all isDig = true := by decide +kernel
theorem dec_step {u : Nat} (h : ¬ u < 10) : Lib.decDigits u = Lib.decDigits (u / 10) ++ [UInt8.ofNat (48 + u % 10)] := by
  conv => lhs; rw [Lib.decDigits, dif_neg h]
theorem dec_pos (u : Nat) : 1 ≤ (Lib.decDigits u).length := by
  by_cases h : u < 10
  · rw [Lib.decDigits_one h]; simp
  · rw [dec_step h]; simp
theorem fixB_eq (f : Int) : fixB f = Lib.decDigits (f.natAbs / 1000) ++ d3 (f.natAbs % 1000) := by
  unfold fixB
  generalize f.natAbs = u
  by_cases h3 : u < 1000
  · have e1 : u / 1000 = 0 := by omega
    have e2 : u % 1000 = u := by omega
    rw [e1, e2, Lib.decDigits_one (show 0 < 10 by decide)]
    by_cases h1 : u < 10
    · rw [Lib.decDigits_one h1]
      have a1 : u / 100 = 0 := by omega
      have a2 : u / 10 % 10 = 0 := by omega
      have a3 : u % 10 = u := by omega
      simp [d3, a1, a2, a3, Lib.repeatL]
    · by_cases h2 : u < 100
      · rw [Lib.decDigits_two h1 h2]
        have a1 : u / 100 = 0 := by omega
        have a2 : u / 10 % 10 = u / 10 := by omega
        simp [d3, a1, a2, Lib.repeatL]
      · rw [dec_step h1, Lib.decDigits_two (by omega) (by omega)]
        have a1 : u / 10 / 10 = u / 100 := by omega
        simp [d3, a1, Lib.repeatL]
  · have hd : Lib.decDigits u = Lib.decDigits (u / 1000) ++ d3 (u % 1000) := by
      rw [dec_step (show ¬ u < 10 by omega), dec_step (show ¬ u / 10 < 10 by omega), dec_step (show ¬ u / 10 / 10 < 10 by omega)]
      have a1 : u / 10 / 10 / 10 = u / 1000 := by omega
      have a2 : u / 10 / 10 % 10 = u % 1000 / 100 := by omega
      have a3 : u / 10 % 10 = u % 1000 / 10 % 10 := by omega
      have a4 : u % 10 = u % 1000 % 10 := by omega
      rw [a1, a2, a3, a4]
      simp [d3]
    rw [hd, if_neg]
    have := dec_pos (u / 1000)
    have hl : (d3 (u % 1000)).length = 3 := rfl
    rw [List.length_append, hl]
    omega
theorem printL_eq (f : Int) : printL f = (if f < 0 then [45] else []) ++ (Lib.decDigits (f.natAbs / 1000) ++ (if f.natAbs % 1000 = 0 then [] else 46 :: fr3 (f.natAbs % 1000))) := by
  have hr : f.natAbs % 1000 < 1000 := Nat.mod_lt _ (by decide)
  obtain ⟨h1, h2, h3, h4⟩ := fr3_eq _ hr
  have hp : fixO (fixP (fixB f)) = Lib.decDigits (f.natAbs / 1000) ++ (if f.natAbs % 1000 = 0 then [] else 46 :: fr3 (f.natAbs % 1000)) := by
    rw [fixB_eq]
    generalize Lib.decDigits (f.natAbs / 1000) = W
    generalize f.natAbs % 1000 = r at *
    have hl : (d3 r).length = 3 := rfl
    unfold fixP
    have e1 : (W ++ d3 r).length - 3 = W.length := by rw [List.length_append, hl]; omega
    rw [e1, List.take_left, List.drop_left, rtrim_dot, fixO_dot W _ h4, ← h1]
    by_cases hz : r = 0
    · rw [if_pos hz, if_pos (h2.2 hz)]; simp
    · rw [if_neg hz, if_neg (fun h => hz (h2.1 h))]; simp
  unfold printL
  split <;> simp [hp]

theorem ten_cut : ∀ x : Nat, x < 10 → List.take (((x : Int) + 1).toNat - (x : Int).toNat) (List.drop (x : Int).toNat [48, 49, 50, 51, 52, 53, 54, 55, 56, 57]) = [UInt8.ofNat (48 + x)] := by
  intro x h
  have : ∀ y : Fin 10, List.take (((y.1 : Int) + 1).toNat - (y.1 : Int).toNat) (List.drop (y.1 : Int).toNat [48, 49, 50, 51, 52, 53, 54, 55, 56, 57]) = [UInt8.ofNat (48 + y.1)] := by decide +kernel
  exact this ⟨x, h⟩

include hE
theorem whole110 : ∀ (m n : Nat), n < m → n < 10000000000 → PCalls E 110 [.int .i64 n] (· = .str (Lib.decDigits n))
  | 0, n, h, _ => absurd h (by omega)
  | m + 1, n, h, hn => by
    refine p110 hE fun l => ?_
    by_cases h1 : n < 10
    · have c1 := ten_cut n h1
      have hn' : (n : Int) < 10 := by omega
      rw [Lib.decDigits_one h1]
      conv => whnf
      repeat' (first
        | (rw [c1]; conv => whnf)
        | (refine And.intro W1 ?_; conv => whnf)
        | (refine brD (fun _ => ?_) (fun _ => ?_) <;> first | (exfalso; omega) | (conv => whnf))
        | (refine brB (fun _ => ?_) (fun _ => ?_) <;> conv => whnf))
      exact RetG.q ⟨rfl, rfl, rfl⟩
    · have hn' : ¬ (n : Int) < 10 := by omega
      have hq : (n : Int).tdiv 10 = ((n / 10 : Nat) : Int) := by rw [Int.tdiv_eq_ediv_of_nonneg (by omega)]; omega
      have hr : (n : Int).tmod 10 = ((n % 10 : Nat) : Int) := by rw [Int.tmod_eq_emod_of_nonneg (by omega)]; omega
      have ih := whole110 m (n / 10) (by omega) (by omega)
      have c2 := ten_cut (n % 10) (by omega)
      rw [dec_step h1]
      have hdl := dec_len 9 (n / 10) (by omega)
      generalize Lib.decDigits (n / 10) = W at *
      have hqi : inI64 ((n / 10 : Nat) : Int) := by unfold inI64; omega
      have hm10 : n % 10 < 10 := Nat.mod_lt _ (by decide)
      generalize n / 10 = q at *
      generalize n % 10 = r at *
      conv => whnf
      repeat' (first
        | (rw [hq]; conv => whnf)
        | (rw [hr]; conv => whnf)
        | (rw [c2]; conv => whnf)
        | (refine And.intro W1 ?_; conv => whnf)
        | (refine brD (fun _ => ?_) (fun _ => ?_) <;> first | (exfalso; omega) | (conv => whnf))
        | (refine brB (fun _ => ?_) (fun _ => ?_) <;> conv => whnf)
        | ((first | refine CallG.e ih ?_ | refine CallD.e ih ?_ | refine CallQ.e ih ?_ | refine CallP.e ih ?_); conv => whnf))
      exact RetG.q ⟨rfl, rfl, rfl⟩

theorem may109 (f : Int) : PCalls E 109 [.int .i64 f] (· = .bool (mayF f)) := by
  unfold mayF
  refine p109 hE fun l => ?_
  conv => whnf
  repeat' (first
    | (refine And.intro W1 ?_; conv => whnf)
    | (refine brD (fun _ => ?_) (fun _ => ?_) <;> first | (exfalso; omega) | (conv => whnf))
    | (refine brB (fun _ => ?_) (fun _ => ?_) <;> conv => whnf))
  all_goals exact RetG.q ⟨rfl, by first | (simp; omega) | (simp_all; done), rfl⟩

omit hE in
def sX (S : List UInt8) (r : Nat) : Nat → List UInt8
  | 0 => S
  | 1 => S ++ [UInt8.ofNat (48 + r / 100)]
  | 2 => S ++ [UInt8.ofNat (48 + r / 100)] ++ (if r % 100 = 0 then [] else [UInt8.ofNat (48 + r % 100 / 10)])
  | _ => S ++ [UInt8.ofNat (48 + r / 100)] ++ (if r % 100 = 0 then [] else [UInt8.ofNat (48 + r % 100 / 10)]) ++ (if r % 10 = 0 then [] else [UInt8.ofNat (48 + r % 10)])
omit hE in
def pX (r : Nat) : Nat → Nat
  | 0 => r
  | 1 => r % 100
  | 2 => r % 10
  | _ => 0
omit hE in
theorem sX_fr {S : List UInt8} {r : Nat} (h0 : r ≠ 0) : sX S r 3 = S ++ fr3 r := by
  unfold sX fr3
  rw [if_neg h0]
  by_cases h1 : r % 100 = 0
  · have h2 : r % 10 = 0 := by omega
    simp [h1, h2]
  · by_cases h2 : r % 10 = 0 <;> simp [h1, h2]

set_option maxHeartbeats 1000000 in
theorem print61 (f : Int) (hf : mayF f = true) : PCalls E 61 [.int .i64 f] (· = .str (printL f)) := by
  have hm : -2147483648 ≤ f ∧ f ≤ 2147483648 := by simpa [mayF] using hf
  have hM := may109 hE f
  rw [hf] at hM
  rw [printL_eq]
  have hu : f.natAbs ≤ 2147483648 := by omega
  have hW := whole110 hE _ (f.natAbs / 1000) (Nat.lt_succ_self _) (by omega)
  have hWl := dec_len 9 (f.natAbs / 1000) (by omega)
  have hqu : ((f.natAbs : Nat) : Int).tdiv 1000 = ((f.natAbs / 1000 : Nat) : Int) := by rw [Int.tdiv_eq_ediv_of_nonneg (by omega)]; omega
  have hru : ((f.natAbs : Nat) : Int).tmod 1000 = ((f.natAbs % 1000 : Nat) : Int) := by rw [Int.tmod_eq_emod_of_nonneg (by omega)]; omega
  have hr : f.natAbs % 1000 < 1000 := Nat.mod_lt _ (by decide)
  have hqi : inI64 ((f.natAbs / 1000 : Nat) : Int) := by unfold inI64; omega
  have hng : f < 0 → 0 - f = ((f.natAbs : Nat) : Int) := fun h => by omega
  have hps : ¬ f < 0 → f = ((f.natAbs : Nat) : Int) := fun h => by omega
  generalize f.natAbs = u at *
  generalize Lib.decDigits (u / 1000) = W at *
  generalize u / 1000 = q at *
  generalize u % 1000 = r at *
  refine p61 hE fun l => ?_
  by_cases h0 : r = 0
  · rw [if_pos h0, List.append_nil]
    subst h0
    by_cases hn : f < 0
    · have hng := hng hn
      rw [if_pos hn]
      conv => whnf
      repeat' (first
        | (rw [hng]; conv => whnf)
        | (rw [hqu]; conv => whnf)
        | (rw [hru]; conv => whnf)
        | (refine And.intro W1 ?_; conv => whnf)
        | (refine brD (fun _ => ?_) (fun _ => ?_) <;> first | (exfalso; omega) | (conv => whnf))
        | (refine brB (fun _ => ?_) (fun _ => ?_) <;> conv => whnf)
        | ((first | refine CallG.e hM ?_ | refine CallD.e hM ?_ | refine CallQ.e hM ?_ | refine CallP.e hM ?_); conv => whnf)
        | ((first | refine CallG.e hW ?_ | refine CallD.e hW ?_ | refine CallQ.e hW ?_ | refine CallP.e hW ?_); conv => whnf))
      all_goals first | contradiction | exact RetG.q ⟨rfl, rfl, rfl⟩
    · have hps := hps hn
      rw [if_neg hn]
      subst hps
      conv => whnf
      repeat' (first
        | (rw [hqu]; conv => whnf)
        | (rw [hru]; conv => whnf)
        | (refine And.intro W1 ?_; conv => whnf)
        | (refine brD (fun _ => ?_) (fun _ => ?_) <;> first | (exfalso; omega) | (conv => whnf))
        | (refine brB (fun _ => ?_) (fun _ => ?_) <;> conv => whnf)
        | ((first | refine CallG.e hM ?_ | refine CallD.e hM ?_ | refine CallQ.e hM ?_ | refine CallP.e hM ?_); conv => whnf)
        | ((first | refine CallG.e hW ?_ | refine CallD.e hW ?_ | refine CallQ.e hW ?_ | refine CallP.e hW ?_); conv => whnf))
      all_goals first | contradiction | exact RetG.q ⟨rfl, rfl, rfl⟩
  · rw [if_neg h0]
    have hri : ¬ (r : Int) = 0 := by omega
    have hr1 : r / 100 < 10 := by omega
    have hr2 : r % 100 / 10 < 10 := by omega
    have hr3 : r % 10 < 10 := by omega
    have w0 := whole110 hE _ (r / 100) (Nat.lt_succ_self _) (by omega)
    have w1 := whole110 hE _ (r % 100 / 10) (Nat.lt_succ_self _) (by omega)
    have w2 := whole110 hE _ (r % 10) (Nat.lt_succ_self _) (by omega)
    rw [Lib.decDigits_one hr1] at w0
    rw [Lib.decDigits_one hr2] at w1
    rw [Lib.decDigits_one hr3] at w2
    have q0 : ((pX r 0 : Nat) : Int).tdiv 100 = ((r / 100 : Nat) : Int) := by show (r : Int).tdiv 100 = _; rw [Int.tdiv_eq_ediv_of_nonneg (by omega)]; omega
    have m0 : ((pX r 0 : Nat) : Int).tmod 100 = ((r % 100 : Nat) : Int) := by show (r : Int).tmod 100 = _; rw [Int.tmod_eq_emod_of_nonneg (by omega)]; omega
    have q1 : ((pX r 1 : Nat) : Int).tdiv 10 = ((r % 100 / 10 : Nat) : Int) := by show ((r % 100 : Nat) : Int).tdiv 10 = _; rw [Int.tdiv_eq_ediv_of_nonneg (by omega)]; omega
    have m1 : ((pX r 1 : Nat) : Int).tmod 10 = ((r % 10 : Nat) : Int) := by show ((r % 100 : Nat) : Int).tmod 10 = _; rw [Int.tmod_eq_emod_of_nonneg (by omega)]; omega
    have q2 : ((pX r 2 : Nat) : Int).tdiv 1 = ((r % 10 : Nat) : Int) := by show ((r % 10 : Nat) : Int).tdiv 1 = _; rw [Int.tdiv_eq_ediv_of_nonneg (by omega)]; omega
    have m2 : ((pX r 2 : Nat) : Int).tmod 1 = ((0 : Nat) : Int) := by show ((r % 10 : Nat) : Int).tmod 1 = _; rw [Int.tmod_eq_emod_of_nonneg (by omega)]; omega
    have i0 : inI64 ((r / 100 : Nat) : Int) := by unfold inI64; omega
    have i1 : inI64 ((r % 100 / 10 : Nat) : Int) := by unfold inI64; omega
    have i2 : inI64 ((r % 10 : Nat) : Int) := by unfold inI64; omega
    have p0 : pX r 0 = r := rfl
    have p1 : pX r 1 = r % 100 := rfl
    have p2 : pX r 2 = r % 10 := rfl
    have sl : ∀ (S : List UInt8) (x : Nat), (sX S r x).length ≤ S.length + 3 := fun S x => by
      unfold sX
      split <;> simp <;> (try split) <;> simp <;> (try split) <;> simp <;> omega
    have sa : ∀ S, 0 < ((pX r 1 : Nat) : Int) → sX S r 1 ++ [UInt8.ofNat (48 + r % 100 / 10)] = sX S r 2 := fun S h => by
      have : ¬ r % 100 = 0 := by omega
      simp [sX, this]
    have sb : ∀ S, ¬ 0 < ((pX r 1 : Nat) : Int) → sX S r 1 = sX S r 2 := fun S h => by
      have : r % 100 = 0 := by omega
      simp [sX, this]
    have sc_ : ∀ S, 0 < ((pX r 2 : Nat) : Int) → sX S r 2 ++ [UInt8.ofNat (48 + r % 10)] = sX S r 3 := fun S h => by
      have : ¬ r % 10 = 0 := by omega
      simp [sX, this]
    have sd : ∀ S, ¬ 0 < ((pX r 2 : Nat) : Int) → sX S r 2 = sX S r 3 := fun S h => by
      have : r % 10 = 0 := by omega
      simp [sX, this]
    by_cases hn : f < 0
    · have hng := hng hn
      rw [if_pos hn]
      conv => whnf
      repeat' (first
        | (rw [hng]; conv => whnf)
        | (rw [hqu]; conv => whnf)
        | (rw [hru]; conv => whnf)
        | (refine And.intro W1 ?_; conv => whnf)
        | (refine brD (fun _ => ?_) (fun _ => ?_) <;> first | (exfalso; omega) | (conv => whnf))
        | (refine brB (fun _ => ?_) (fun _ => ?_) <;> conv => whnf)
        | ((first | refine CallG.e hM ?_ | refine CallD.e hM ?_ | refine CallQ.e hM ?_ | refine CallP.e hM ?_); conv => whnf)
        | ((first | refine CallG.e hW ?_ | refine CallD.e hW ?_ | refine CallQ.e hW ?_ | refine CallP.e hW ?_); conv => whnf))
      all_goals first | contradiction | skip
      refine LoopG.s (fun x : Nat => x ≤ 3) 47 (fun x => [(3, .str (sX ([45] ++ W ++ [46]) r x)), (5, .int .i64 (pX r x)), (28, .imm 1 [[.int .i64 100], [.int .i64 10], [.int .i64 1]]), (29, .int .i64 3), (30, .int .i64 x)]) (fun x => frm l) (fun x => 3 - x) 0 (by decide) rfl ⟨rfl, rfl, rfl, rfl, rfl⟩ rfl ?_
      have hsl := fun x => sl ([45] ++ W ++ [46]) x
      simp only [List.length_append, List.length_cons, List.length_nil] at hsl
      rintro x h1
      match x, h1 with
      | 0, _ =>
        have hsl := hsl 0
        conv => whnf
        repeat' (first
          | (rw [q0]; conv => whnf)
          | (rw [m0]; conv => whnf)
          | (refine And.intro W1 ?_; conv => whnf)
          | (refine brD (fun _ => ?_) (fun _ => ?_) <;> first | (exfalso; omega) | (conv => whnf))
          | (refine brB (fun _ => ?_) (fun _ => ?_) <;> conv => whnf)
          | ((first | refine CallG.e w0 ?_ | refine CallD.e w0 ?_ | refine CallQ.e w0 ?_ | refine CallP.e w0 ?_); conv => whnf))
        all_goals first | (exfalso; omega) | exact ⟨1, ⟨by decide, by decide⟩, Wk.slots rfl ⟨rfl, rfl, rfl, rfl, rfl⟩⟩
      | 1, _ =>
        have hsl := hsl 1
        conv => whnf
        repeat' (first
          | (rw [q1]; conv => whnf)
          | (rw [m1]; conv => whnf)
          | (refine And.intro W1 ?_; conv => whnf)
          | (refine brD (fun _ => ?_) (fun _ => ?_) <;> first | (exfalso; omega) | (conv => whnf))
          | (refine brB (fun _ => ?_) (fun _ => ?_) <;> conv => whnf)
          | ((first | refine CallG.e w1 ?_ | refine CallD.e w1 ?_ | refine CallQ.e w1 ?_ | refine CallP.e w1 ?_); conv => whnf))
        · rename_i h; exact ⟨2, ⟨by decide, by decide⟩, Wk.slots rfl ⟨congrArg (fun z => some (AV.str z)) (sa _ h), rfl, rfl, rfl, rfl⟩⟩
        · rename_i h; exact ⟨2, ⟨by decide, by decide⟩, Wk.slots rfl ⟨congrArg (fun z => some (AV.str z)) (sb _ h), rfl, rfl, rfl, rfl⟩⟩
      | 2, _ =>
        have hsl := hsl 2
        conv => whnf
        repeat' (first
          | (rw [q2]; conv => whnf)
          | (rw [m2]; conv => whnf)
          | (refine And.intro W1 ?_; conv => whnf)
          | (refine brD (fun _ => ?_) (fun _ => ?_) <;> first | (exfalso; omega) | (conv => whnf))
          | (refine brB (fun _ => ?_) (fun _ => ?_) <;> conv => whnf)
          | ((first | refine CallG.e w2 ?_ | refine CallD.e w2 ?_ | refine CallQ.e w2 ?_ | refine CallP.e w2 ?_); conv => whnf))
        · rename_i h; exact ⟨3, ⟨by decide, by decide⟩, Wk.slots rfl ⟨congrArg (fun z => some (AV.str z)) (sc_ _ h), rfl, rfl, rfl, rfl⟩⟩
        · rename_i h; exact ⟨3, ⟨by decide, by decide⟩, Wk.slots rfl ⟨congrArg (fun z => some (AV.str z)) (sd _ h), rfl, rfl, rfl, rfl⟩⟩
      | 3, _ =>
        conv => whnf
        repeat' (first
          | (refine And.intro W1 ?_; conv => whnf)
          | (refine brD (fun _ => ?_) (fun _ => ?_) <;> first | (exfalso; omega) | (conv => whnf))
          | (refine brB (fun _ => ?_) (fun _ => ?_) <;> conv => whnf))
        exact RetG.q ⟨rfl, by rw [sX_fr h0]; simp, rfl⟩
    · have hps := hps hn
      rw [if_neg hn]
      subst hps
      conv => whnf
      repeat' (first
        | (rw [hqu]; conv => whnf)
        | (rw [hru]; conv => whnf)
        | (refine And.intro W1 ?_; conv => whnf)
        | (refine brD (fun _ => ?_) (fun _ => ?_) <;> first | (exfalso; omega) | (conv => whnf))
        | (refine brB (fun _ => ?_) (fun _ => ?_) <;> conv => whnf)
        | ((first | refine CallG.e hM ?_ | refine CallD.e hM ?_ | refine CallQ.e hM ?_ | refine CallP.e hM ?_); conv => whnf)
        | ((first | refine CallG.e hW ?_ | refine CallD.e hW ?_ | refine CallQ.e hW ?_ | refine CallP.e hW ?_); conv => whnf))
      all_goals first | contradiction | skip
      refine LoopG.s (fun x : Nat => x ≤ 3) 47 (fun x => [(3, .str (sX ([] ++ W ++ [46]) r x)), (5, .int .i64 (pX r x)), (28, .imm 1 [[.int .i64 100], [.int .i64 10], [.int .i64 1]]), (29, .int .i64 3), (30, .int .i64 x)]) (fun x => frm l) (fun x => 3 - x) 0 (by decide) rfl ⟨rfl, rfl, rfl, rfl, rfl⟩ rfl ?_
      have hsl := fun x => sl ([] ++ W ++ [46]) x
      simp only [List.length_append, List.length_cons, List.length_nil] at hsl
      rintro x h1
      match x, h1 with
      | 0, _ =>
        have hsl := hsl 0
        conv => whnf
        repeat' (first
          | (rw [q0]; conv => whnf)
          | (rw [m0]; conv => whnf)
          | (refine And.intro W1 ?_; conv => whnf)
          | (refine brD (fun _ => ?_) (fun _ => ?_) <;> first | (exfalso; omega) | (conv => whnf))
          | (refine brB (fun _ => ?_) (fun _ => ?_) <;> conv => whnf)
          | ((first | refine CallG.e w0 ?_ | refine CallD.e w0 ?_ | refine CallQ.e w0 ?_ | refine CallP.e w0 ?_); conv => whnf))
        all_goals first | (exfalso; omega) | exact ⟨1, ⟨by decide, by decide⟩, Wk.slots rfl ⟨rfl, rfl, rfl, rfl, rfl⟩⟩
      | 1, _ =>
        have hsl := hsl 1
        conv => whnf
        repeat' (first
          | (rw [q1]; conv => whnf)
          | (rw [m1]; conv => whnf)
          | (refine And.intro W1 ?_; conv => whnf)
          | (refine brD (fun _ => ?_) (fun _ => ?_) <;> first | (exfalso; omega) | (conv => whnf))
          | (refine brB (fun _ => ?_) (fun _ => ?_) <;> conv => whnf)
          | ((first | refine CallG.e w1 ?_ | refine CallD.e w1 ?_ | refine CallQ.e w1 ?_ | refine CallP.e w1 ?_); conv => whnf))
        · rename_i h; exact ⟨2, ⟨by decide, by decide⟩, Wk.slots rfl ⟨congrArg (fun z => some (AV.str z)) (sa _ h), rfl, rfl, rfl, rfl⟩⟩
        · rename_i h; exact ⟨2, ⟨by decide, by decide⟩, Wk.slots rfl ⟨congrArg (fun z => some (AV.str z)) (sb _ h), rfl, rfl, rfl, rfl⟩⟩
      | 2, _ =>
        have hsl := hsl 2
        conv => whnf
        repeat' (first
          | (rw [q2]; conv => whnf)
          | (rw [m2]; conv => whnf)
          | (refine And.intro W1 ?_; conv => whnf)
          | (refine brD (fun _ => ?_) (fun _ => ?_) <;> first | (exfalso; omega) | (conv => whnf))
          | (refine brB (fun _ => ?_) (fun _ => ?_) <;> conv => whnf)
          | ((first | refine CallG.e w2 ?_ | refine CallD.e w2 ?_ | refine CallQ.e w2 ?_ | refine CallP.e w2 ?_); conv => whnf))
        · rename_i h; exact ⟨3, ⟨by decide, by decide⟩, Wk.slots rfl ⟨congrArg (fun z => some (AV.str z)) (sc_ _ h), rfl, rfl, rfl, rfl⟩⟩
        · rename_i h; exact ⟨3, ⟨by decide, by decide⟩, Wk.slots rfl ⟨congrArg (fun z => some (AV.str z)) (sd _ h), rfl, rfl, rfl, rfl⟩⟩
      | 3, _ =>
        conv => whnf
        repeat' (first
          | (refine And.intro W1 ?_; conv => whnf)
          | (refine brD (fun _ => ?_) (fun _ => ?_) <;> first | (exfalso; omega) | (conv => whnf))
          | (refine brB (fun _ => ?_) (fun _ => ?_) <;> conv => whnf))
        exact RetG.q ⟨rfl, by rw [sX_fr h0]; simp, rfl⟩
end Ink.D
