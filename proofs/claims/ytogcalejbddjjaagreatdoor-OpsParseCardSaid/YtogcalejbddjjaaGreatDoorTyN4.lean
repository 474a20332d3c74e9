import Derived.Test.YtogcalejbddjjaaGreatDoorTyN3
import Derived.Test.YtogcalejbddjjaaGreatDoorPCosA
set_option linter.all false
namespace Ink.D
open Go Go.Proofs
set_option maxRecDepth 100000
variable {E : Env} (hE : E.P = Tryz.prog)

theorem wrap_u64 {n : Int} (h0 : 0 ≤ n) (h1 : n < 18446744073709551616) : IntKind.wrap .u64 n = n := by
  unfold IntKind.wrap
  simp only [show IntKind.u64.bits = 64 from rfl, show IntKind.u64.signed = false from rfl, Bool.false_and, Bool.false_eq_true, if_false]
  omega

theorem low_u64 {n : Int} (h0 : 0 ≤ n) (h1 : n < 4294967296) : bits .and .u64 n 4294967295 = n := by
  unfold bits
  show IntKind.wrap .u64 ((BitVec.ofInt 64 n &&& BitVec.ofInt 64 4294967295).toNat : Int) = n
  have e : (BitVec.ofInt 64 n &&& BitVec.ofInt 64 4294967295).toNat = n.toNat := by
    rw [BitVec.toNat_and, BitVec.toNat_ofInt, BitVec.toNat_ofInt]
    have a1 : (n % (2 ^ 64 : Nat)).toNat = n.toNat := by omega
    have a2 : ((4294967295 : Int) % (2 ^ 64 : Nat)).toNat = 2 ^ 32 - 1 := by decide
    rw [a1, a2, Nat.and_two_pow_sub_one_eq_mod]
    omega
  rw [e, wrap_u64 (by omega) (by omega)]
  omega

include hE
theorem mul213 (c : Int) (h0 : 0 ≤ c) (h1 : c < 1000000) : PCalls E 213 [.int .u64 1, .int .u64 c] (· = .tup [.int .u64 0, .int .u64 c]) := by
  have a1 := low_u64 (n := 1) (by decide) (by decide)
  have a2 := low_u64 h0 (by omega)
  have a3 := wrap_u64 (n := 1 * c) (by omega) (by omega)
  have a4 : c.fdiv (2 ^ (min (32 : Int).toNat IntKind.u64.bits)) = 0 := by
    show c.fdiv 4294967296 = 0
    rw [Int.fdiv_eq_ediv_of_nonneg _ (by decide)]
    omega
  have a5 : 1 * c = c := by omega
  rw [a5] at a3
  refine p213 hE (fun l => ?_)
  conv => whnf
  repeat' (first
    | (rw [a2]; conv => whnf)
    | (rw [a5]; conv => whnf)
    | (rw [a3]; conv => whnf)
    | (rw [a4]; conv => whnf)
    | (refine And.intro W1 ?_; conv => whnf)
    | (refine brD (fun _ => ?_) (fun _ => ?_) <;> first | (exfalso; omega) | (conv => whnf))
    | (refine brB (fun _ => ?_) (fun _ => ?_) <;> conv => whnf))
  have z0 : IntKind.wrap .u64 0 = 0 := by decide
  have z1 : Int.fdiv 1 (2 ^ min (Int.toNat 32) IntKind.u64.bits) = 0 := by decide
  have z2 : Int.fdiv 0 (2 ^ min (Int.toNat 32) IntKind.u64.bits) = 0 := by decide
  have z3 : bits .and .u64 0 4294967295 = 0 := by decide
  refine RetG.q ⟨rfl, ?_, rfl⟩
  simp only [a1, z1, a5, a3, a4, Int.zero_mul, Int.mul_zero, z0, Int.zero_add, z2, z3, Int.add_zero]

theorem mul147 (c : Int) (h0 : 0 ≤ c) (h1 : c < 1000000) : PCalls E 147 [.int .u64 1, .int .u64 c] (· = .tup [.int .u64 0, .int .u64 c]) := by
  have h := mul213 hE c h0 h1
  refine p147 hE (fun l => ?_)
  conv => whnf
  repeat' (first
    | (refine And.intro W1 ?_; conv => whnf)
    | (refine brD (fun _ => ?_) (fun _ => ?_) <;> first | (exfalso; omega) | (conv => whnf))
    | (refine brB (fun _ => ?_) (fun _ => ?_) <;> conv => whnf)
    | ((first | refine CallG.e h ?_ | refine CallD.e h ?_ | refine CallQ.e h ?_ | refine CallP.e h ?_); conv => whnf))
  exact RetG.q ⟨rfl, rfl, rfl⟩

omit hE in
theorem repK_flat (z : List AV) : ∀ n, (List.replicate n z).flatten = repK n z
  | 0 => rfl
  | n + 1 => by rw [List.replicate_succ, List.flatten_cons, repK_flat z n, repK, appK_eq]; rfl
omit hE in
theorem repK_len (z : List AV) (n : Nat) : (repK n z).length = n * z.length := by
  rw [← repK_flat]
  induction n with
  | zero => simp
  | succ n ih => rw [List.replicate_succ, List.flatten_cons, List.length_append, ih, Nat.succ_mul]; omega
omit hE in
theorem cellsO_rep (p : OpL) (n : Nat) : cellsO (List.replicate n p) = repK n (opE p) := by
  rw [← repK_flat]; simp [cellsO, opLs]
omit hE in
theorem repK_add (z : List AV) (a b : Nat) : repK (a + b) z = repK a z ++ repK b z := by
  rw [← repK_flat, ← repK_flat, ← repK_flat, ← List.replicate_append_replicate, List.flatten_append]

omit hE in
theorem rep_step {y z : List AV} (hy : y.length = 2) (hz : z.length = 2) {n c m : Nat} (hm : m = min n (c - n)) (hn : n ≤ c) :
    (repK n y ++ repK (c - n) z).take (0 + n * 2) ++ (((repK n y ++ repK (c - n) z).drop 0).take (m * 2) ++ (repK n y ++ repK (c - n) z).drop (0 + n * 2 + m * 2)) = repK (n + m) y ++ repK (c - (n + m)) z := by
  have l1 : (repK n y).length = n * 2 := by rw [repK_len, hy]
  have e1 : repK n y = repK m y ++ repK (n - m) y := by rw [← repK_add]; congr 1; omega
  have e2 : repK (c - n) z = repK m z ++ repK (c - (n + m)) z := by rw [← repK_add]; congr 1; omega
  have l2 : (repK m y).length = m * 2 := by rw [repK_len, hy]
  have l3 : (repK m z).length = m * 2 := by rw [repK_len, hz]
  rw [Nat.zero_add, List.drop_zero, List.take_append_of_le_length (by omega), ← l1, List.take_length]
  have t1 : (repK n y ++ repK (c - n) z).take (m * 2) = repK m y := by
    rw [e1, List.append_assoc, List.take_append_of_le_length (by omega), ← l2, List.take_length]
  have t2 : (repK n y ++ repK (c - n) z).drop ((repK n y).length + m * 2) = repK (c - (n + m)) z := by
    rw [← List.drop_drop, List.drop_left, e2, ← l3, List.drop_left]
  rw [t1, t2, repK_add, List.append_assoc]

abbrev zOp : List AV := [.str [], nilA]

set_option maxHeartbeats 1000000 in
theorem repeat91 (p : OpL) (c : Nat) (h0 : 0 < c) (h1 : c < 1000000) : PCalls E 91 [.imm 2 [opE p], .int .i64 c] (· = .imm 2 (opLs (List.replicate c p))) := by
  have hm := mul147 hE c (by omega) (by omega)
  have w1 : IntKind.wrap .u64 ((c : Nat) : Int) = c := wrap_u64 (by omega) (by omega)
  have w2 : IntKind.wrap .u64 (1 : Int) = 1 := by decide
  have hL := opE_hb (n0 := 1) p
  have hL0 := opE_hb (n0 := 0) p
  have hi : inI64 (c : Int) := by unfold inI64; omega
  refine p91 hE (fun l => ?_) (by simp [hbL, hb, hbLL, hL0])
  have hm1 : min [opE p].length ((c : Int)).toNat = 1 := by simp; omega
  have hm2 : 1 * 2 ≤ [opE p].flatten.length := by simp [opE]
  conv => whnf
  repeat' (first
    | (rw [w1]; conv => whnf)
    | (rw [hm1]; conv => whnf)
    | (refine And.intro W1 ?_; conv => whnf)
    | (refine brD (fun _ => ?_) (fun _ => ?_) <;> first | (exfalso; omega) | (conv => whnf))
    | (refine brB (fun _ => ?_) (fun _ => ?_) <;> conv => whnf)
    | ((first | refine CallG.e hm ?_ | refine CallD.e hm ?_ | refine CallQ.e hm ?_ | refine CallP.e hm ?_); conv => whnf)
    | (refine And.intro ⟨rfl, rfl, by omega, hm2⟩ ?_; conv => whnf))
  have hst : ∀ n, n ≤ c → repK n (opE p) ++ repK (c - n) zOp = repK n (opE p) ++ repK (c - n) zOp := fun _ _ => rfl
  refine LoopG.s (fun n : Nat => 0 < n ∧ n ≤ c) 48 (fun n => [(7, .own 1 0 0 c 2), (8, .int .i64 n)]) (fun n => [⟨0, true, .frame l⟩, ⟨0, true, .cells 47 (repK n (opE p) ++ repK (c - n) zOp)⟩]) (fun n => c - n) 1 ⟨by omega, by omega⟩ rfl ⟨rfl, rfl⟩ ?_ ?_
  · refine congrArg (fun z => [_, Blk.mk 0 true (BK.cells 47 z)]) ?_
    have hd : repK c zOp = zOp ++ repK (c - 1) zOp := by
      have := repK_add zOp 1 (c - 1)
      rw [show 1 + (c - 1) = c by omega] at this
      rw [this]; rfl
    show (repK c zOp).take 0 ++ ([opE p].flatten.take (1 * 2) ++ (repK c zOp).drop (0 + 1 * 2)) = repK 1 (opE p) ++ repK (c - 1) zOp
    rw [hd]
    simp [opE, repK, appK]
  · rintro n ⟨n0, n1⟩
    by_cases hn : n < c
    · obtain ⟨m, hm⟩ : ∃ m, m = min n (c - n) := ⟨_, rfl⟩
      have hm3 : min ((n : Int)).toNat (c - ((n : Int)).toNat) = m := by rw [Int.toNat_natCast]; exact hm.symm
      have l1 : (repK n (opE p)).length = n * 2 := by rw [repK_len]; rfl
      have l2 : (repK (c - n) zOp).length = (c - n) * 2 := by rw [repK_len]; rfl
      have a1 : 0 + ((n : Int)).toNat * 2 ≤ (repK n (opE p) ++ repK (c - n) zOp).length := by rw [List.length_append, l1, l2, Int.toNat_natCast]; omega
      have a2 : m * 2 ≤ ((repK n (opE p) ++ repK (c - n) zOp).drop 0).length := by rw [List.drop_zero, List.length_append, l1, l2]; omega
      have hst := rep_step (y := opE p) (z := zOp) rfl rfl hm n1
      conv => whnf
      repeat' (first
        | (rw [hm3]; conv => whnf)
        | (refine And.intro W1 ?_; conv => whnf)
        | (refine brD (fun _ => ?_) (fun _ => ?_) <;> first | (exfalso; omega) | (conv => whnf))
        | (refine brB (fun _ => ?_) (fun _ => ?_) <;> conv => whnf)
        | (refine And.intro ⟨rfl, rfl, a1, a2⟩ ?_; conv => whnf))
      rw [Int.toNat_natCast, hst]
      exact ⟨n + m, ⟨⟨by omega, by omega⟩, by omega⟩, Wk.slots rfl ⟨rfl, rfl⟩⟩
    · obtain rfl : n = c := by omega
      conv => whnf
      repeat' (first
        | (refine And.intro W1 ?_; conv => whnf)
        | (refine brD (fun _ => ?_) (fun _ => ?_) <;> first | (exfalso; omega) | (conv => whnf))
        | (refine brB (fun _ => ?_) (fun _ => ?_) <;> conv => whnf))
      rw [Nat.sub_self]
      have e : repK n (opE p) ++ repK 0 zOp = cellsO (List.replicate n p) := by rw [cellsO_rep]; simp [repK]
      rw [e]
      have hp := pubO (H := [⟨0, true, .frame l⟩, ⟨0, true, .cells 47 (cellsO (List.replicate n p))⟩]) (n := 1) (i := 1) (ver := 0) (List.replicate n p) rfl (Nat.le_refl 1)
      rw [List.length_replicate] at hp
      exact RetG.pub hp rfl rfl ⟨by simp [hb, opLs_hb], rfl, rfl⟩

theorem grow148 (n : Nat) (h0 : 0 < n) (h1 : n < 1000000) (b0 : Blk) : ACalls E 148 [nilA, .int .i64 n] [b0] fun r H' => r = .own 1 0 0 0 2 ∧ H' = [b0, ⟨0, true, .cells 47 (repK n zOp)⟩] := by
  have hi : inI64 (n : Int) := by unfold inI64; omega
  have hi2 : inI64 ((n : Int) - (0 - 0)) := by unfold inI64; omega
  have hn : ((n : Int) - (0 - 0)).toNat = n := by omega
  have h3 : 0 < (n : Int) - (0 - 0) ∧ 0 < 40 ∧ ((n : Int) - (0 - 0)).toNat * 40 ≤ 70368744177664 := by omega
  refine a148 hE ?_
  conv => whnf
  repeat' (first
    | (refine And.intro W1 ?_; conv => whnf)
    | (refine brD (fun _ => ?_) (fun _ => ?_) <;> first | (exfalso; omega) | (conv => whnf))
    | (refine brB (fun _ => ?_) (fun _ => ?_) <;> conv => whnf)
    | (refine And.intro h3 ?_; conv => whnf))
  rw [hn]
  exact RetG.q ⟨rfl, rfl⟩

theorem concat92 (A B C : List OpL) (ha : A.length < 100000) (hb_ : B.length < 100000) (hc : C.length < 100000) (h0 : 0 < A.length) :
    PCalls E 92 [.imm 1 [[.imm 2 (opLs A)], [.imm 2 (opLs B)], [.imm 2 (opLs C)]]] (· = .imm 2 (opLs (A ++ B ++ C))) := by
  have hG := fun b0 => grow148 hE (A.length + B.length + C.length) (by omega) (by omega) b0
  have la := opLs_len A
  have lb := opLs_len B
  have lc := opLs_len C
  have hA : ∀ n0, hbLL n0 (opLs A) = true := fun n0 => opLs_hb A
  have hB : ∀ n0, hbLL n0 (opLs B) = true := fun n0 => opLs_hb B
  have hC : ∀ n0, hbLL n0 (opLs C) = true := fun n0 => opLs_hb C
  obtain ⟨AA, hAA⟩ : ∃ AA : List (List AV), AA = [[.imm 2 (opLs A)], [.imm 2 (opLs B)], [.imm 2 (opLs C)]] := ⟨_, rfl⟩
  have hAb : ∀ n0, hbLL n0 AA = true := fun n0 => by subst hAA; simp [hbL, hb, hbLL, hA, hB, hC]
  have hAl : AA.length = 3 := by subst hAA; rfl
  rw [← hAA]
  refine p92 hE (fun l => ?_) (by simp [hbL, hb, hAb])
  conv => whnf
  repeat' (first
    | (refine And.intro W1 ?_; conv => whnf)
    | (refine brD (fun _ => ?_) (fun _ => ?_) <;> first | (exfalso; omega) | (conv => whnf))
    | (refine brB (fun _ => ?_) (fun _ => ?_) <;> conv => whnf))
  refine LoopG.s (fun x : Nat × Nat => (x.1 = 0 ∧ x.2 = 0) ∨ (x.1 = 1 ∧ x.2 = A.length) ∨ (x.1 = 2 ∧ x.2 = A.length + B.length) ∨ (x.1 = 3 ∧ x.2 = A.length + B.length + C.length)) 36 (fun x => [(0, .imm 1 AA), (2, nilA), (3, .int .i64 x.2), (9, .imm 1 AA), (10, .int .i64 AA.length), (11, .int .i64 x.1)]) (fun _ => frm l) (fun x => 3 - x.1) (0, 0) (.inl ⟨rfl, rfl⟩) rfl ⟨rfl, rfl, rfl, rfl, rfl, rfl⟩ rfl ?_
  rintro ⟨x, z⟩ hx
  simp only at hx
  rcases hx with ⟨rfl, rfl⟩ | ⟨rfl, rfl⟩ | ⟨rfl, rfl⟩ | ⟨rfl, rfl⟩
  · have hg : AA.getD (((0 : Nat) : Int)).toNat [] = [.imm 2 (opLs A)] := by subst hAA; rfl
    have hi : inI64 (((0 : Nat) : Int) + (opLs A).length) := by unfold inI64; omega
    conv => whnf
    repeat' (first
      | (rw [hg]; conv => whnf)
      | (refine And.intro W1 ?_; conv => whnf)
      | (refine brD (fun _ => ?_) (fun _ => ?_) <;> first | (exfalso; omega) | (conv => whnf))
      | (refine brB (fun _ => ?_) (fun _ => ?_) <;> conv => whnf)
      | ((first | refine CallG.e hi ?_ | refine CallD.e hi ?_ | refine CallQ.e hi ?_ | refine CallP.e hi ?_); conv => whnf))
    exact ⟨(1, A.length), ⟨.inr (.inl ⟨rfl, rfl⟩), by simp only; omega⟩, Wk.slots rfl ⟨rfl, rfl, by rw [la]; simp [getK], rfl, rfl, rfl⟩⟩
  · have hg : AA.getD (((1 : Nat) : Int)).toNat [] = [.imm 2 (opLs B)] := by subst hAA; rfl
    have hi : inI64 ((A.length : Int) + (opLs B).length) := by unfold inI64; omega
    conv => whnf
    repeat' (first
      | (rw [hg]; conv => whnf)
      | (refine And.intro W1 ?_; conv => whnf)
      | (refine brD (fun _ => ?_) (fun _ => ?_) <;> first | (exfalso; omega) | (conv => whnf))
      | (refine brB (fun _ => ?_) (fun _ => ?_) <;> conv => whnf)
      | ((first | refine CallG.e hi ?_ | refine CallD.e hi ?_ | refine CallQ.e hi ?_ | refine CallP.e hi ?_); conv => whnf))
    exact ⟨(2, A.length + B.length), ⟨.inr (.inr (.inl ⟨rfl, rfl⟩)), by simp only; omega⟩, Wk.slots rfl ⟨rfl, rfl, by rw [lb]; simp [getK], rfl, rfl, rfl⟩⟩
  · have hg : AA.getD (((2 : Nat) : Int)).toNat [] = [.imm 2 (opLs C)] := by subst hAA; rfl
    have hi : inI64 (((A.length + B.length : Nat) : Int) + (opLs C).length) := by unfold inI64; omega
    conv => whnf
    repeat' (first
      | (rw [hg]; conv => whnf)
      | (refine And.intro W1 ?_; conv => whnf)
      | (refine brD (fun _ => ?_) (fun _ => ?_) <;> first | (exfalso; omega) | (conv => whnf))
      | (refine brB (fun _ => ?_) (fun _ => ?_) <;> conv => whnf)
      | ((first | refine CallG.e hi ?_ | refine CallD.e hi ?_ | refine CallQ.e hi ?_ | refine CallP.e hi ?_); conv => whnf))
    exact ⟨(3, A.length + B.length + C.length), ⟨.inr (.inr (.inr ⟨rfl, rfl⟩)), by simp only; omega⟩, Wk.slots rfl ⟨rfl, rfl, by rw [lc]; simp [getK], rfl, rfl, rfl⟩⟩
  · conv => whnf
    repeat' (first
      | (refine And.intro W1 ?_; conv => whnf)
      | (refine brD (fun _ => ?_) (fun _ => ?_) <;> first | (exfalso; omega) | (conv => whnf))
      | (refine brB (fun _ => ?_) (fun _ => ?_) <;> conv => whnf)
      | (refine CallG.a ((hG _).mono fun r H' hq => ?_); obtain ⟨rfl, rfl⟩ := hq; conv => whnf))
    refine LoopG.s (fun x : Nat × List AV × Nat => (x.1 = 0 ∧ x.2.2 = 0) ∨ (x.1 = 1 ∧ x.2.1 = cellsO A ∧ x.2.2 = A.length) ∨ (x.1 = 2 ∧ x.2.1 = cellsO (A ++ B) ∧ x.2.2 = (A ++ B).length) ∨ (x.1 = 3 ∧ x.2.1 = cellsO (A ++ B ++ C) ∧ x.2.2 = (A ++ B ++ C).length)) 36
      (fun x => [(0, .imm 1 AA), (2, nilA), (6, .own 1 0 0 x.2.2 2), (25, .imm 1 AA), (26, .int .i64 AA.length), (27, .int .i64 x.1)]) (fun x => [⟨0, true, .frame l⟩, ⟨0, true, .cells 47 x.2.1⟩]) (fun x => 3 - x.1) (0, repK (A.length + B.length + C.length) zOp, 0) (.inl ⟨rfl, rfl⟩) rfl ⟨rfl, rfl, rfl, rfl, rfl, rfl⟩ rfl ?_
    rintro ⟨x, cs, z⟩ hx
    simp only at hx
    dsimp only
    rcases hx with ⟨rfl, rfl⟩ | ⟨rfl, rfl, rfl⟩ | ⟨rfl, rfl, rfl⟩ | ⟨rfl, rfl, rfl⟩
    · have hg : AA.getD (((0 : Nat) : Int)).toNat [] = [.imm 2 (opLs A)] := by subst hAA; rfl
      have hB1 : 0 + 0 * 2 ≤ cs.length := by omega
      have hB2 : (0 + (opLs A).length) * 40 ≤ 70368744177664 := by omega
      conv => whnf
      repeat' (first
        | (rw [hg]; conv => whnf)
        | (refine And.intro W1 ?_; conv => whnf)
        | (refine brD (fun _ => ?_) (fun _ => ?_) <;> first | (exfalso; omega) | (conv => whnf))
        | (refine brB (fun _ => ?_) (fun _ => ?_) <;> conv => whnf)
        | (refine And.intro ⟨rfl, rfl, rfl, hB1, by decide, hB2⟩ ?_; conv => whnf))
      rw [show 0 + (opLs A).length = A.length by omega]
      have hcell : BK.cells 47 (((cs).drop 0).take (0 * 2) ++ (opLs A).flatten) = BK.cells 47 (cellsO A) := by simp [cellsO]
      exact ⟨(1, cellsO A, A.length), ⟨.inr (.inl ⟨rfl, rfl, rfl⟩), by simp only; omega⟩, Wk.gc [some 0, some 1] rfl rfl rfl ⟨⟨_, _, rfl, rfl, .same _ rfl⟩, ⟨_, _, rfl, rfl, .eq hcell (by simp [bkFree, hbB, cellsO_hb])⟩, trivial⟩
        ⟨⟨_, rfl, .same _ (by simp [hb, hAb])⟩, ⟨_, rfl, .same _ rfl⟩, ⟨_, rfl, .own 1 1 1 0 0 _ 2 _ _ rfl rfl rfl⟩, ⟨_, rfl, .same _ (by simp [hb, hAb])⟩, ⟨_, rfl, .same _ rfl⟩, ⟨_, rfl, .same _ rfl⟩, trivial⟩⟩
    · have hg : AA.getD (((1 : Nat) : Int)).toNat [] = [.imm 2 (opLs B)] := by subst hAA; rfl
      have hB1 : 0 + (A).length * 2 ≤ (cellsO (A)).length := by rw [cellsO_length]; omega
      have hB2 : ((A).length + (opLs B).length) * 40 ≤ 70368744177664 := by omega
      conv => whnf
      repeat' (first
        | (rw [hg]; conv => whnf)
        | (refine And.intro W1 ?_; conv => whnf)
        | (refine brD (fun _ => ?_) (fun _ => ?_) <;> first | (exfalso; omega) | (conv => whnf))
        | (refine brB (fun _ => ?_) (fun _ => ?_) <;> conv => whnf)
        | (refine And.intro ⟨rfl, rfl, rfl, hB1, by decide, hB2⟩ ?_; conv => whnf))
      rw [show (A).length + (opLs B).length = (A ++ B).length by simp only [opLs_len, List.length_append]]
      have hcell : BK.cells 47 (((cellsO (A)).drop 0).take ((A).length * 2) ++ (opLs B).flatten) = BK.cells 47 (cellsO (A ++ B)) := by
        rw [List.drop_zero, take_all (cellsO_length _), cellsO_append A B]; rfl
      exact ⟨(2, cellsO (A ++ B), (A ++ B).length), ⟨.inr (.inr (.inl ⟨rfl, rfl, rfl⟩)), by simp only; omega⟩, Wk.gc [some 0, some 1] rfl rfl rfl ⟨⟨_, _, rfl, rfl, .same _ rfl⟩, ⟨_, _, rfl, rfl, .eq hcell (by simp [bkFree, hbB, cellsO_hb])⟩, trivial⟩
        ⟨⟨_, rfl, .same _ (by simp [hb, hAb])⟩, ⟨_, rfl, .same _ rfl⟩, ⟨_, rfl, .own 1 1 1 0 0 _ 2 _ _ rfl rfl rfl⟩, ⟨_, rfl, .same _ (by simp [hb, hAb])⟩, ⟨_, rfl, .same _ rfl⟩, ⟨_, rfl, .same _ rfl⟩, trivial⟩⟩
    · have hg : AA.getD (((2 : Nat) : Int)).toNat [] = [.imm 2 (opLs C)] := by subst hAA; rfl
      have hB1 : 0 + (A ++ B).length * 2 ≤ (cellsO (A ++ B)).length := by rw [cellsO_length]; omega
      have hB2 : ((A ++ B).length + (opLs C).length) * 40 ≤ 70368744177664 := by simp only [List.length_append]; omega
      conv => whnf
      repeat' (first
        | (rw [hg]; conv => whnf)
        | (refine And.intro W1 ?_; conv => whnf)
        | (refine brD (fun _ => ?_) (fun _ => ?_) <;> first | (exfalso; omega) | (conv => whnf))
        | (refine brB (fun _ => ?_) (fun _ => ?_) <;> conv => whnf)
        | (refine And.intro ⟨rfl, rfl, rfl, hB1, by decide, hB2⟩ ?_; conv => whnf))
      rw [show (A ++ B).length + (opLs C).length = (A ++ B ++ C).length by simp only [opLs_len, List.length_append]]
      have hcell : BK.cells 47 (((cellsO (A ++ B)).drop 0).take ((A ++ B).length * 2) ++ (opLs C).flatten) = BK.cells 47 (cellsO (A ++ B ++ C)) := by
        rw [List.drop_zero, take_all (cellsO_length _), cellsO_append (A ++ B) C]; rfl
      exact ⟨(3, cellsO (A ++ B ++ C), (A ++ B ++ C).length), ⟨.inr (.inr (.inr ⟨rfl, rfl, rfl⟩)), by simp only; omega⟩, Wk.gc [some 0, some 1] rfl rfl rfl ⟨⟨_, _, rfl, rfl, .same _ rfl⟩, ⟨_, _, rfl, rfl, .eq hcell (by simp [bkFree, hbB, cellsO_hb])⟩, trivial⟩
        ⟨⟨_, rfl, .same _ (by simp [hb, hAb])⟩, ⟨_, rfl, .same _ rfl⟩, ⟨_, rfl, .own 1 1 1 0 0 _ 2 _ _ rfl rfl rfl⟩, ⟨_, rfl, .same _ (by simp [hb, hAb])⟩, ⟨_, rfl, .same _ rfl⟩, ⟨_, rfl, .same _ rfl⟩, trivial⟩⟩
    · conv => whnf
      repeat' (first
        | (refine And.intro W1 ?_; conv => whnf)
        | (refine brD (fun _ => ?_) (fun _ => ?_) <;> first | (exfalso; omega) | (conv => whnf))
        | (refine brB (fun _ => ?_) (fun _ => ?_) <;> conv => whnf))
      exact RetG.pub (pubO (A ++ B ++ C) rfl (show 1 ≤ 1 by decide)) rfl rfl ⟨by simp [hb, opLs_hb], rfl, rfl⟩

omit hE in
theorem pubOne {H : List Blk} {n : Nat} (nm : List UInt8) (a : AV) (args : List Ob) (ha : Pub H n a (.imm 6 (obL args))) : Pub H n (.imm 2 [[.str nm, a]]) (.imm 2 (opLs [(nm, args)])) := by
  have hp : PubL H n [.str nm, a] (opE (nm, args)) := ⟨.same _ rfl, ha, trivial⟩
  refine .imm 2 _ _ rfl rfl (by simp [opLs, opE]) ?_ (by simpa [opLs, opE] using hp.spec.2)
  intro x hx
  have hx : x ∈ opE (nm, args) := by simpa [opLs] using hx
  exact opE_sc _ x hx

set_option maxHeartbeats 1000000 in
theorem wrap50 (ops : List OpL) (hl : ops.length ≤ 10000) : PCalls E 50 [.imm 2 (opLs ops)] (· = .imm 2 (opLs (wrapOL ops))) := by
  have hlL := opLs_len ops
  have hL : ∀ n0, hbLL n0 (opLs ops) = true := fun n0 => opLs_hb ops
  unfold wrapOL
  generalize hR : wrapF ops 0 0 = R
  refine p50 hE (fun l => ?_) (by simp [hbL, hb, hL])
  conv => whnf
  repeat' (first
    | (refine And.intro W1 ?_; conv => whnf)
    | (refine brD (fun _ => ?_) (fun _ => ?_) <;> first | (exfalso; omega) | (conv => whnf))
    | (refine brB (fun _ => ?_) (fun _ => ?_) <;> conv => whnf))
  refine LoopG.s (fun x : Nat × Int × Int => x.1 ≤ ops.length ∧ (-(x.1 : Int) ≤ x.2.2 ∧ x.2.2 ≤ 0 ∧ x.2.2 ≤ x.2.1 ∧ x.2.1 ≤ x.1) ∧ wrapF (ops.drop x.1) x.2.1 x.2.2 = R) 46 (fun x => [(0, .imm 2 (opLs ops)), (2, nilA), (3, .int .i64 x.2.1), (4, .int .i64 x.2.2), (9, .imm 2 (opLs ops)), (10, .int .i64 (opLs ops).length), (11, .int .i64 x.1)]) (fun _ => frm l) (fun x => ops.length - x.1) (0, 0, 0) ⟨by simp, by simp, by simpa using hR⟩ rfl ⟨rfl, rfl, rfl, rfl, rfl, rfl, rfl⟩ rfl ?_
  clear hR
  rintro ⟨x, deep, low⟩ ⟨h1, ⟨hd0, hd1, hd2, hd3⟩, h2⟩
  dsimp only at h1 hd0 hd1 hd2 hd3 h2 ⊢
  by_cases hx : x < ops.length
  · have hg := opLs_at hx
    rw [opE_at] at hg
    have hk := wrapF_at hx deep low
    rw [h2] at hk
    clear h2
    generalize ops[x] = op at *
    obtain ⟨nm, args⟩ := op
    simp only at hg hk
    have hi : inI64 (deep + 1) := by unfold inI64; omega
    have hi2 : inI64 (deep - 1) := by unfold inI64; omega
    by_cases q1 : nm = [113]
    · subst q1
      rw [if_pos rfl] at hk
      conv => whnf
      repeat' (first
        | (rw [hg]; conv => whnf)
        | (refine And.intro W1 ?_; conv => whnf)
        | (refine brD (fun _ => ?_) (fun _ => ?_) <;> first | (exfalso; omega) | (conv => whnf))
        | (refine brB (fun _ => ?_) (fun _ => ?_) <;> conv => whnf))
      all_goals first | contradiction | skip
      exact ⟨(x + 1, deep + 1, if deep + 1 < low then deep + 1 else low), ⟨⟨by simp only; omega, by simp only; split <;> omega, hk.symm⟩, by simp only; omega⟩, Wk.cut 1 rfl rfl rfl ⟨⟨_, rfl, .same _ (hL 1)⟩, ⟨_, rfl, .same _ rfl⟩, ⟨_, rfl, .same _ rfl⟩, ⟨_, rfl, .same _ rfl⟩, ⟨_, rfl, .same _ (hL 1)⟩, ⟨_, rfl, .same _ rfl⟩, ⟨_, rfl, .same _ rfl⟩, trivial⟩ rfl rfl⟩
    · rw [if_neg q1] at hk
      by_cases q2 : nm = [81]
      · subst q2
        rw [if_pos rfl] at hk
        conv => whnf
        repeat' (first
          | (rw [hg]; conv => whnf)
          | (refine And.intro W1 ?_; conv => whnf)
          | (refine brD (fun _ => ?_) (fun _ => ?_) <;> first | (exfalso; omega) | (conv => whnf))
          | (refine brB (fun _ => ?_) (fun _ => ?_) <;> conv => whnf))
        all_goals first | contradiction | skip
        exact ⟨(x + 1, deep - 1, if deep - 1 < low then deep - 1 else low), ⟨⟨by simp only; omega, by simp only; split <;> omega, hk.symm⟩, by simp only; omega⟩, Wk.cut 1 rfl rfl rfl ⟨⟨_, rfl, .same _ (hL 1)⟩, ⟨_, rfl, .same _ rfl⟩, ⟨_, rfl, .same _ rfl⟩, ⟨_, rfl, .same _ rfl⟩, ⟨_, rfl, .same _ (hL 1)⟩, ⟨_, rfl, .same _ rfl⟩, ⟨_, rfl, .same _ rfl⟩, trivial⟩ rfl rfl⟩
      · rw [if_neg q2] at hk
        conv => whnf
        repeat' (first
          | (rw [hg]; conv => whnf)
          | (refine And.intro W1 ?_; conv => whnf)
          | (refine brD (fun _ => ?_) (fun _ => ?_) <;> first | (exfalso; omega) | (conv => whnf))
          | (refine brB (fun _ => ?_) (fun _ => ?_) <;> conv => whnf))
        all_goals first | contradiction | skip
        exact ⟨(x + 1, deep, if deep < low then deep else low), ⟨⟨by simp only; omega, by simp only; split <;> omega, hk.symm⟩, by simp only; omega⟩, Wk.cut 1 rfl rfl rfl ⟨⟨_, rfl, .same _ (hL 1)⟩, ⟨_, rfl, .same _ rfl⟩, ⟨_, rfl, .same _ rfl⟩, ⟨_, rfl, .same _ rfl⟩, ⟨_, rfl, .same _ (hL 1)⟩, ⟨_, rfl, .same _ rfl⟩, ⟨_, rfl, .same _ rfl⟩, trivial⟩ rfl rfl⟩
  · have : x = ops.length := by omega
    subst this
    rw [List.drop_length] at h2
    unfold wrapF at h2
    subst h2
    simp only
    obtain ⟨c1, hc1⟩ : ∃ c : Nat, 1 - low = c := ⟨(1 - low).toNat, by omega⟩
    obtain ⟨c2, hc2⟩ : ∃ c : Nat, 1 + deep - low = c := ⟨(1 + deep - low).toNat, by omega⟩
    have e1 : (1 - low).toNat = c1 := by omega
    have e2 : (1 + deep - low).toNat = c2 := by omega
    rw [e1, e2]
    have r1 := (repeat91 hE opQ c1 (by omega) (by omega)).pub (args' := [.imm 2 [[.str [113], nilA]], .int .i64 c1]) (fun n => ⟨pubOne [113] _ [] (.nil _ _), .same _ rfl, trivial⟩)
    have r2 := (repeat91 hE opC c2 (by omega) (by omega)).pub (args' := [.imm 2 [[.str [81], nilA]], .int .i64 c2]) (fun n => ⟨pubOne [81] _ [] (.nil _ _), .same _ rfl, trivial⟩)
    rw [← hc1] at r1
    rw [← hc2] at r2
    have hC := concat92 hE (List.replicate c1 opQ) ops (List.replicate c2 opC) (by simp; omega) (by omega) (by simp; omega) (by simp; omega)
    conv => whnf
    repeat' (first
      | (refine And.intro W1 ?_; conv => whnf)
      | (refine brD (fun _ => ?_) (fun _ => ?_) <;> first | (exfalso; omega) | (conv => whnf))
      | (refine brB (fun _ => ?_) (fun _ => ?_) <;> conv => whnf)
      | ((first | refine CallG.e r1 ?_ | refine CallD.e r1 ?_ | refine CallQ.e r1 ?_ | refine CallP.e r1 ?_); conv => whnf)
      | ((first | refine CallG.e r2 ?_ | refine CallD.e r2 ?_ | refine CallQ.e r2 ?_ | refine CallP.e r2 ?_); conv => whnf)
      | ((first | refine CallG.e hC ?_ | refine CallD.e hC ?_ | refine CallQ.e hC ?_ | refine CallP.e hC ?_); conv => whnf))
    exact RetG.q ⟨by simp [hb, opLs_hb], rfl, rfl⟩
end Ink.D
