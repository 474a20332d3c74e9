import Derived.Test.YtogcalejbddjjaaGreatDoorPCosE
import Derived.Test.YtogcalejbddjjaaGreatDoorPCosB
set_option linter.all false
namespace Ink.D
open Go Go.Proofs
set_option maxRecDepth 100000
variable {E : Env} (hE : E.P = Tryz.prog)

mutual
def exO : Ob → Ob → Bool
  | .mk k n f s l d, .mk k' n' f' s' l' d' => decide (k = k' ∧ n = n' ∧ f = f' ∧ s = s' ∧ l.length = l'.length ∧ d.length = d'.length) && (exL l l' && exD d d')
def exL : List Ob → List Ob → Bool
  | [], _ => true
  | _ :: _, [] => false
  | o :: r, p :: q => exO o p && exL r q
def exD : List (List UInt8 × Ob) → List (List UInt8 × Ob) → Bool
  | [], _ => true
  | _ :: _, [] => false
  | e :: r, p :: q => exE e p && exD r q
def exE : List UInt8 × Ob → List UInt8 × Ob → Bool
  | (a, o), (b, p) => decide (a = b) && exO o p
end

theorem exE_eq (e p : List UInt8 × Ob) : exE e p = (decide (e.1 = p.1) && exO e.2 p.2) := by obtain ⟨a, o⟩ := e; obtain ⟨b, q⟩ := p; simp [exE]

theorem ex_refl : ∀ (N : Nat) (a : Ob), sizeOf a < N → exO a a = true
  | 0, _, h => by omega
  | N + 1, .mk k n f s l d, h => by
    simp at h
    have hl : ∀ (m : List Ob), sizeOf m ≤ sizeOf l → exL m m = true := by
      intro m
      induction m with
      | nil => intro _; simp [exL]
      | cons o r ih =>
        intro hm
        simp at hm
        simp only [exL, Bool.and_eq_true]
        exact ⟨ex_refl N o (by omega), ih (by omega)⟩
    have hd : ∀ (m : List (List UInt8 × Ob)), sizeOf m ≤ sizeOf d → exD m m = true := by
      intro m
      induction m with
      | nil => intro _; simp [exD]
      | cons e r ih =>
        intro hm
        obtain ⟨a, o⟩ := e
        simp at hm
        simp only [exD, exE, Bool.and_eq_true]
        exact ⟨⟨by simp, ex_refl N o (by omega)⟩, ih (by omega)⟩
    rw [exO, hl l (Nat.le_refl _), hd d (Nat.le_refl _)]
    simp

include hE
set_option maxHeartbeats 2000000 in
theorem exact8 : ∀ (N : Nat) (a b : Ob), sizeOf a < N → countO a < big → countO b < big → PCalls E 27 [.agg (obC a), .agg (obC b)] (· = .bool (exO a b))
  | 0, a, b, h, _, _ => by omega
  | N + 1, .mk k n f s l_ d, .mk k' n' f' s' l' d', hN, hc, hc' => by
    have hlen := countL_len l_
    have hdlen := countD_len d
    have hlen' := countL_len l'
    have hdlen' := countD_len d'
    unfold countO at hc hc'
    have ihl : ∀ (x : Nat) (h : x < l_.length) (h' : x < l'.length), PCalls E 27 [.agg (obC l_[x]), .agg (obC l'[x])] (· = .bool (exO l_[x] l'[x])) := fun x h h' => by
      have h1 := List.sizeOf_lt_of_mem (List.getElem_mem h)
      have h2 := countO_mem (List.getElem_mem h)
      have h3 := countO_mem (List.getElem_mem h')
      exact exact8 N _ _ (by simp at hN; omega) (by omega) (by omega)
    have ihd : ∀ (x : Nat) (h : x < d.length) (h' : x < d'.length), PCalls E 27 [.agg (obC d[x].2), .agg (obC d'[x].2)] (· = .bool (exO d[x].2 d'[x].2)) := fun x h h' => by
      have h1 := List.sizeOf_lt_of_mem (List.getElem_mem h)
      have h2 := countD_mem (List.getElem_mem h)
      have h3 := countD_mem (List.getElem_mem h')
      have h4 : sizeOf d[x].2 < sizeOf d[x] := by generalize d[x] = e; obtain ⟨a, o⟩ := e; simp; omega
      exact exact8 N _ _ (by simp at hN; omega) (by omega) (by omega)
    have hl := obL_len l_
    have hl' := obL_len l'
    have hd := obD_length d
    have hd' := obD_length d'
    have hD : ∀ n0, hbLL n0 (obD d) = true := fun n0 => obD_hb d
    have hL : ∀ n0, hbLL n0 (obL l_) = true := fun n0 => obL_hb l_
    have hD' : ∀ n0, hbLL n0 (obD d') = true := fun n0 => obD_hb d'
    have hL' : ∀ n0, hbLL n0 (obL l') = true := fun n0 => obL_hb l'
    unfold big at hc hc'
    refine p27 hE (fun l => ?_) (by simp [hbL, hb, obC_hb])
    rw [exO]
    unfold obC
    by_cases heq : k = k' ∧ n = n' ∧ f = f' ∧ s = s' ∧ l_.length = l'.length ∧ d.length = d'.length
    · rw [decide_eq_true heq, Bool.true_and]
      obtain ⟨rfl, rfl, rfl, rfl, hll, hdd⟩ := heq
      generalize hR1 : exL l_ l' = R1
      generalize hR2 : exD d d' = R2
      conv => whnf
      repeat' (first
        | (refine And.intro W1 ?_; conv => whnf)
        | (refine brD (fun _ => ?_) (fun _ => ?_) <;> first | (exfalso; omega) | (conv => whnf))
        | (refine brB (fun _ => ?_) (fun _ => ?_) <;> conv => whnf))
      · rename_i hs
        exact absurd rfl hs
      refine LoopG.s (fun x : Nat => x ≤ l_.length ∧ exL (l_.drop x) (l'.drop x) = R1) 106 (fun x => [(2, .ptr 1 0 0), (3, .ptr 2 0 0), (5, .int .i64 x)]) (fun _ => [⟨0, true, .frame l⟩, ⟨0, true, .cells 26 [.int .i64 k, .int .i64 n, .int .i64 f, .str s, .imm 6 (obL l_), .imm 7 (obD d)]⟩, ⟨0, true, .cells 26 [.int .i64 k, .int .i64 n, .int .i64 f, .str s, .imm 6 (obL l'), .imm 7 (obD d')]⟩]) (fun x => l_.length - x) 0 ⟨by simp, by simpa using hR1⟩ rfl ⟨rfl, rfl, rfl⟩ rfl ?_
      clear hR1
      rintro x ⟨i1, i2⟩
      by_cases hx : x < l_.length
      · have hx2 : x < l'.length := by omega
        have hg := obL_at hx
        have hg2 := obL_at hx2
        have hC := ihl x hx hx2
        rw [List.drop_eq_getElem_cons hx, List.drop_eq_getElem_cons hx2] at i2
        unfold exL at i2
        have hcs : ∃ c0 c1 c2 c3 c4 c5, obC l_[x] = [c0, c1, c2, c3, c4, c5] := by cases l_[x]; exact ⟨_, _, _, _, _, _, rfl⟩
        have hcs2 : ∃ c0 c1 c2 c3 c4 c5, obC l'[x] = [c0, c1, c2, c3, c4, c5] := by cases l'[x]; exact ⟨_, _, _, _, _, _, rfl⟩
        obtain ⟨c0, c1, c2, c3, c4, c5, hc1⟩ := hcs
        obtain ⟨d0, d1, d2, d3, d4, d5, hc2⟩ := hcs2
        rw [hc1] at hg hC
        rw [hc2] at hg2 hC
        generalize exO l_[x] l'[x] = y at *
        have hxm : (x : Int) < ((obL l').length : Int) := by omega
        conv => whnf
        repeat' (first
          | (rw [hg]; conv => whnf)
          | (rw [hg2]; conv => whnf)
          | (refine And.intro W1 ?_; conv => whnf)
          | (refine brD (fun _ => ?_) (fun _ => ?_) <;> first | (exfalso; omega) | (conv => whnf))
          | (refine brB (fun _ => ?_) (fun _ => ?_) <;> conv => whnf)
          | ((first | refine CallG.e hC ?_ | refine CallD.e hC ?_ | refine CallQ.e hC ?_ | refine CallP.e hC ?_); conv => whnf)
          | ((first | refine CallG.e hxm ?_ | refine CallD.e hxm ?_ | refine CallQ.e hxm ?_ | refine CallP.e hxm ?_); conv => whnf))
        · rename_i hy
          have hy : y = false := by simpa using hy
          rw [hy, Bool.false_and] at i2
          exact RetG.drop rfl rfl rfl ⟨rfl, by rw [← i2]; rfl, rfl⟩
        · rename_i hy
          have hy : y = true := by simpa using hy
          rw [hy, Bool.true_and] at i2
          exact ⟨x + 1, ⟨⟨by omega, i2⟩, by omega⟩, Wk.slots rfl ⟨rfl, rfl, rfl⟩⟩
      · have hxe : x = l_.length := by omega
        subst hxe
        rw [List.drop_length] at i2
        have hR1 : R1 = true := by rw [← i2]; simp [exL]
        subst hR1
        rw [Bool.true_and]
        clear i2
        conv => whnf
        repeat' (first
          | (refine And.intro W1 ?_; conv => whnf)
          | (refine brD (fun _ => ?_) (fun _ => ?_) <;> first | (exfalso; omega) | (conv => whnf))
          | (refine brB (fun _ => ?_) (fun _ => ?_) <;> conv => whnf))
        refine LoopG.s (fun x : Nat => x ≤ d.length ∧ exD (d.drop x) (d'.drop x) = R2) 106 (fun x => [(2, .ptr 1 0 0), (3, .ptr 2 0 0), (6, .int .i64 x)]) (fun _ => [⟨0, true, .frame l⟩, ⟨0, true, .cells 26 [.int .i64 k, .int .i64 n, .int .i64 f, .str s, .imm 6 (obL l_), .imm 7 (obD d)]⟩, ⟨0, true, .cells 26 [.int .i64 k, .int .i64 n, .int .i64 f, .str s, .imm 6 (obL l'), .imm 7 (obD d')]⟩]) (fun x => d.length - x) 0 ⟨by simp, by simpa using hR2⟩ rfl ⟨rfl, rfl, rfl⟩ rfl ?_
        clear hR2
        rintro x ⟨i1, i2⟩
        by_cases hx : x < d.length
        · have hx2 : x < d'.length := by omega
          have hg := obD_get hx
          have hg2 := obD_get hx2
          have hC := ihd x hx hx2
          rw [List.drop_eq_getElem_cons hx, List.drop_eq_getElem_cons hx2] at i2
          unfold exD at i2
          rw [exE_eq] at i2
          rw [obE_eq] at hg hg2
          have hcs : ∃ c0 c1 c2 c3 c4 c5, obC d[x].2 = [c0, c1, c2, c3, c4, c5] := by cases d[x].2; exact ⟨_, _, _, _, _, _, rfl⟩
          have hcs2 : ∃ c0 c1 c2 c3 c4 c5, obC d'[x].2 = [c0, c1, c2, c3, c4, c5] := by cases d'[x].2; exact ⟨_, _, _, _, _, _, rfl⟩
          obtain ⟨c0, c1, c2, c3, c4, c5, hc1⟩ := hcs
          obtain ⟨d0, d1, d2, d3, d4, d5, hc2⟩ := hcs2
          rw [hc1] at hg hC
          rw [hc2] at hg2 hC
          generalize exO d[x].2 d'[x].2 = y at *
          generalize d[x].1 = ka at *
          generalize d'[x].1 = kb at *
          have hxm : (x : Int) < ((obD d').length : Int) := by omega
          by_cases hab : ka = kb
          · subst hab
            rw [decide_eq_true rfl, Bool.true_and] at i2
            cases y with
            | false =>
              rw [Bool.false_and] at i2
              conv => whnf
              repeat' (first
                | (rw [hg]; conv => whnf)
                | (rw [hg2]; conv => whnf)
                | (refine And.intro W1 ?_; conv => whnf)
                | (refine brD (fun _ => ?_) (fun _ => ?_) <;> first | (exfalso; omega) | (conv => whnf))
                | (refine brB (fun _ => ?_) (fun _ => ?_) <;> conv => whnf)
                | ((first | refine CallG.e hC ?_ | refine CallD.e hC ?_ | refine CallQ.e hC ?_ | refine CallP.e hC ?_); conv => whnf)
                | ((first | refine CallG.e hxm ?_ | refine CallD.e hxm ?_ | refine CallQ.e hxm ?_ | refine CallP.e hxm ?_); conv => whnf))
              all_goals first | contradiction | exact RetG.drop rfl rfl rfl ⟨rfl, by rw [← i2], rfl⟩
            | true =>
              rw [Bool.true_and] at i2
              conv => whnf
              repeat' (first
                | (rw [hg]; conv => whnf)
                | (rw [hg2]; conv => whnf)
                | (refine And.intro W1 ?_; conv => whnf)
                | (refine brD (fun _ => ?_) (fun _ => ?_) <;> first | (exfalso; omega) | (conv => whnf))
                | (refine brB (fun _ => ?_) (fun _ => ?_) <;> conv => whnf)
                | ((first | refine CallG.e hC ?_ | refine CallD.e hC ?_ | refine CallQ.e hC ?_ | refine CallP.e hC ?_); conv => whnf)
                | ((first | refine CallG.e hxm ?_ | refine CallD.e hxm ?_ | refine CallQ.e hxm ?_ | refine CallP.e hxm ?_); conv => whnf))
              all_goals first | contradiction | exact ⟨x + 1, ⟨⟨by omega, i2⟩, by omega⟩, Wk.slots rfl ⟨rfl, rfl, rfl⟩⟩
          · rw [decide_eq_false hab, Bool.false_and, Bool.false_and] at i2
            conv => whnf
            repeat' (first
              | (rw [hg]; conv => whnf)
              | (rw [hg2]; conv => whnf)
              | (refine And.intro W1 ?_; conv => whnf)
              | (refine brD (fun _ => ?_) (fun _ => ?_) <;> first | (exfalso; omega) | (conv => whnf))
              | (refine brB (fun _ => ?_) (fun _ => ?_) <;> conv => whnf)
              | ((first | refine CallG.e hxm ?_ | refine CallD.e hxm ?_ | refine CallQ.e hxm ?_ | refine CallP.e hxm ?_); conv => whnf))
            all_goals first | (exfalso; simp_all; done) | exact RetG.drop rfl rfl rfl ⟨rfl, by rw [← i2], rfl⟩
        · have hxe : x = d.length := by omega
          subst hxe
          rw [List.drop_length] at i2
          conv => whnf
          repeat' (first
            | (refine And.intro W1 ?_; conv => whnf)
            | (refine brD (fun _ => ?_) (fun _ => ?_) <;> first | (exfalso; omega) | (conv => whnf))
            | (refine brB (fun _ => ?_) (fun _ => ?_) <;> conv => whnf))
          exact RetG.drop rfl rfl rfl ⟨rfl, by rw [← i2]; simp [exD], rfl⟩
    · rw [decide_eq_false heq, Bool.false_and]
      conv => whnf
      repeat' (first
        | (refine And.intro W1 ?_; conv => whnf)
        | (refine brD (fun _ => ?_) (fun _ => ?_) <;> first | (exfalso; omega) | (conv => whnf))
        | (refine brB (fun _ => ?_) (fun _ => ?_) <;> conv => whnf))
      all_goals first | exact RetG.drop rfl rfl rfl ⟨rfl, rfl, rfl⟩ | (exfalso; apply heq; refine ⟨Decidable.not_not.mp (by assumption), Decidable.not_not.mp (by assumption), Decidable.not_not.mp (by assumption), Decidable.not_not.mp (by assumption), by omega, by omega⟩)
end Ink.D
