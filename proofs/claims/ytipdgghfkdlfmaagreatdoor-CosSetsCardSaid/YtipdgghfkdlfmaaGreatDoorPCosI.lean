import Derived.Test.YtipdgghfkdlfmaaGreatDoorPCosH
set_option linter.all false
namespace Ink.D
open Go Go.Proofs
set_option maxRecDepth 100000
set_option linter.unusedSimpArgs false
set_option linter.unusedVariables false
variable {E : Env} (hE : E.P = Tryz.prog)

mutual
/-- exactly the same -/
def exO : Ob → Ob → Bool
  | .mk k n f s l d, .mk k' n' f' s' l' d' => decide (k = k' ∧ n = n' ∧ f = f' ∧ s = s' ∧ l.length = l'.length ∧ d.length = d'.length) && (exL l l' && exD d d')
def exL : List Ob → List Ob → Bool
  | [], _ => true
  | _ :: _, [] => false
  | o :: r, p :: q => exO o p && exL r q
def exD : List (List UInt8 × Ob) → List (List UInt8 × Ob) → Bool
  | [], _ => true
  | _ :: _, [] => false
  | e :: r, p :: q => exE e p && exD r q
def exE : List UInt8 × Ob → List UInt8 × Ob → Bool
  | (a, o), (b, p) => decide (a = b) && exO o p
end

theorem exE_eq (e p : List UInt8 × Ob) : exE e p = (decide (e.1 = p.1) && exO e.2 p.2) := by obtain ⟨a, o⟩ := e; obtain ⟨b, q⟩ := p; simp [exE]

theorem ex_refl : ∀ (N : Nat) (a : Ob), sizeOf a < N → exO a a = true
  | 0, _, h => by omega
  | N + 1, .mk k n f s l d, h => by
    simp at h
    have hl : ∀ (m : List Ob), sizeOf m ≤ sizeOf l → exL m m = true := by
      intro m
      induction m with
      | nil => intro _; simp [exL]
      | cons o r ih =>
        intro hm
        simp at hm
        simp only [exL, Bool.and_eq_true]
        exact ⟨ex_refl N o (by omega), ih (by omega)⟩
    have hd : ∀ (m : List (List UInt8 × Ob)), sizeOf m ≤ sizeOf d → exD m m = true := by
      intro m
      induction m with
      | nil => intro _; simp [exD]
      | cons e r ih =>
        intro hm
        obtain ⟨a, o⟩ := e
        simp at hm
        simp only [exD, exE, Bool.and_eq_true]
        exact ⟨⟨by simp, ex_refl N o (by omega)⟩, ih (by omega)⟩
    rw [exO, hl l (Nat.le_refl _), hd d (Nat.le_refl _)]
    simp

include hE
set_option maxHeartbeats 2000000 in
theorem exact8 : ∀ (N : Nat) (a b : Ob), sizeOf a < N → countO a < big → countO b < big → PCalls E 8 [.agg (obC a), .agg (obC b)] (· = .bool (exO a b))
  | 0, a, b, h, _, _ => by omega
  | N + 1, .mk k n f s l_ d, .mk k' n' f' s' l' d', hN, hc, hc' => by
    have hlen := countL_len l_
    have hdlen := countD_len d
    have hlen' := countL_len l'
    have hdlen' := countD_len d'
    unfold countO at hc hc'
    have ihl : ∀ (x : Nat) (h : x < l_.length) (h' : x < l'.length), PCalls E 8 [.agg (obC l_[x]), .agg (obC l'[x])] (· = .bool (exO l_[x] l'[x])) := fun x h h' => by
      have h1 := List.sizeOf_lt_of_mem (List.getElem_mem h)
      have h2 := countO_mem (List.getElem_mem h)
      have h3 := countO_mem (List.getElem_mem h')
      exact exact8 N _ _ (by simp at hN; omega) (by omega) (by omega)
    have ihd : ∀ (x : Nat) (h : x < d.length) (h' : x < d'.length), PCalls E 8 [.agg (obC d[x].2), .agg (obC d'[x].2)] (· = .bool (exO d[x].2 d'[x].2)) := fun x h h' => by
      have h1 := List.sizeOf_lt_of_mem (List.getElem_mem h)
      have h2 := countD_mem (List.getElem_mem h)
      have h3 := countD_mem (List.getElem_mem h')
      have h4 : sizeOf d[x].2 < sizeOf d[x] := by generalize d[x] = e; obtain ⟨a, o⟩ := e; simp; omega
      exact exact8 N _ _ (by simp at hN; omega) (by omega) (by omega)
    have hl := obL_len l_
    have hl' := obL_len l'
    have hd := obD_length d
    have hd' := obD_length d'
    have hD : ∀ n0, hbLL n0 (obD d) = true := fun n0 => obD_hb d
    have hL : ∀ n0, hbLL n0 (obL l_) = true := fun n0 => obL_hb l_
    have hD' : ∀ n0, hbLL n0 (obD d') = true := fun n0 => obD_hb d'
    have hL' : ∀ n0, hbLL n0 (obL l') = true := fun n0 => obL_hb l'
    unfold big at hc hc'
    refine p8 hE (fun l => ?_) (by simp [hbL, hb, obC_hb])
    rw [exO]
    unfold obC
    by_cases heq : k = k' ∧ n = n' ∧ f = f' ∧ s = s' ∧ l_.length = l'.length ∧ d.length = d'.length
    · rw [decide_eq_true heq, Bool.true_and]
      obtain ⟨rfl, rfl, rfl, rfl, hll, hdd⟩ := heq
      generalize hR1 : exL l_ l' = R1
      generalize hR2 : exD d d' = R2
      conv => whnf
      repeat' (first
        | (refine And.intro ?_ ?_; (focus (first | omega | decide | (unfold inI64; omega) | (simp only [List.length_append, List.length_cons, List.length_nil] <;> omega) | (refine ⟨?_, ?_⟩ <;> omega) | (refine ⟨?_, ?_, ?_, ?_, ?_, ?_⟩ <;> first | rfl | trivial | decide | omega | (simp [bytesAV_length] <;> omega)) | (simp <;> omega) | (unfold inI64; simp only [List.length_append, List.length_cons, List.length_nil] <;> omega))); conv => whnf)
        | (refine brD (fun _ => ?_) (fun _ => ?_) <;> first | (exfalso; omega) | (conv => whnf))
        | (refine brB (fun _ => ?_) (fun _ => ?_) <;> conv => whnf))
      · rename_i hs
        exact absurd rfl hs
      refine LoopG.s (fun x : Nat => x ≤ l_.length ∧ exL (l_.drop x) (l'.drop x) = R1) 106 (fun x => [(2, .ptr 1 0 0), (3, .ptr 2 0 0), (5, .int .i64 x)]) (fun _ => [⟨0, true, .frame l⟩, ⟨0, true, .cells 26 [.int .i64 k, .int .i64 n, .int .i64 f, .str s, .imm 6 (obL l_), .imm 7 (obD d)]⟩, ⟨0, true, .cells 26 [.int .i64 k, .int .i64 n, .int .i64 f, .str s, .imm 6 (obL l'), .imm 7 (obD d')]⟩]) (fun x => l_.length - x) 0 ⟨by simp, by simpa using hR1⟩ rfl ⟨rfl, rfl, rfl⟩ rfl ?_
      clear hR1
      rintro x ⟨i1, i2⟩
      by_cases hx : x < l_.length
      · have hx2 : x < l'.length := by omega
        have hg := obL_at hx
        have hg2 := obL_at hx2
        have hC := ihl x hx hx2
        rw [List.drop_eq_getElem_cons hx, List.drop_eq_getElem_cons hx2] at i2
        unfold exL at i2
        have hcs : ∃ c0 c1 c2 c3 c4 c5, obC l_[x] = [c0, c1, c2, c3, c4, c5] := by cases l_[x]; exact ⟨_, _, _, _, _, _, rfl⟩
        have hcs2 : ∃ c0 c1 c2 c3 c4 c5, obC l'[x] = [c0, c1, c2, c3, c4, c5] := by cases l'[x]; exact ⟨_, _, _, _, _, _, rfl⟩
        obtain ⟨c0, c1, c2, c3, c4, c5, hc1⟩ := hcs
        obtain ⟨d0, d1, d2, d3, d4, d5, hc2⟩ := hcs2
        rw [hc1] at hg hC
        rw [hc2] at hg2 hC
        generalize exO l_[x] l'[x] = y at *
        have hxm : (x : Int) < ((obL l').length : Int) := by omega
        conv => whnf
        repeat' (first
          | (rw [hg]; conv => whnf)
          | (rw [hg2]; conv => whnf)
          | (refine And.intro ?_ ?_; (focus (first | omega | decide | (unfold inI64; omega) | (simp only [List.length_append, List.length_cons, List.length_nil] <;> omega) | (refine ⟨?_, ?_⟩ <;> omega) | (refine ⟨?_, ?_, ?_, ?_, ?_, ?_⟩ <;> first | rfl | trivial | decide | omega | (simp [bytesAV_length] <;> omega)) | (simp <;> omega) | (unfold inI64; simp only [List.length_append, List.length_cons, List.length_nil] <;> omega))); conv => whnf)
          | (refine brD (fun _ => ?_) (fun _ => ?_) <;> first | (exfalso; omega) | (conv => whnf))
          | (refine brB (fun _ => ?_) (fun _ => ?_) <;> conv => whnf)
          | ((first | refine CallG.e (hC) ?_ | refine CallD.e (hC) ?_ | refine CallQ.e (hC) ?_ | refine CallP.e (hC) ?_); conv => whnf)
          | ((first | refine CallG.e (hxm) ?_ | refine CallD.e (hxm) ?_ | refine CallQ.e (hxm) ?_ | refine CallP.e (hxm) ?_); conv => whnf))
        · rename_i hy
          have hy : y = false := by simpa using hy
          rw [hy, Bool.false_and] at i2
          exact RetG.drop rfl rfl rfl ⟨rfl, by rw [← i2]; rfl, rfl⟩
        · rename_i hy
          have hy : y = true := by simpa using hy
          rw [hy, Bool.true_and] at i2
          exact ⟨x + 1, ⟨⟨by omega, i2⟩, by omega⟩, Wk.slots rfl ⟨rfl, rfl, rfl⟩⟩
      · have hxe : x = l_.length := by omega
        subst hxe
        rw [List.drop_length] at i2
        have hR1 : R1 = true := by rw [← i2]; simp [exL]
        subst hR1
        rw [Bool.true_and]
        clear i2
        conv => whnf
        repeat' (first
          | (refine And.intro ?_ ?_; (focus (first | omega | decide | (unfold inI64; omega) | (simp only [List.length_append, List.length_cons, List.length_nil] <;> omega) | (refine ⟨?_, ?_⟩ <;> omega) | (refine ⟨?_, ?_, ?_, ?_, ?_, ?_⟩ <;> first | rfl | trivial | decide | omega | (simp [bytesAV_length] <;> omega)) | (simp <;> omega) | (unfold inI64; simp only [List.length_append, List.length_cons, List.length_nil] <;> omega))); conv => whnf)
          | (refine brD (fun _ => ?_) (fun _ => ?_) <;> first | (exfalso; omega) | (conv => whnf))
          | (refine brB (fun _ => ?_) (fun _ => ?_) <;> conv => whnf))
        refine LoopG.s (fun x : Nat => x ≤ d.length ∧ exD (d.drop x) (d'.drop x) = R2) 106 (fun x => [(2, .ptr 1 0 0), (3, .ptr 2 0 0), (6, .int .i64 x)]) (fun _ => [⟨0, true, .frame l⟩, ⟨0, true, .cells 26 [.int .i64 k, .int .i64 n, .int .i64 f, .str s, .imm 6 (obL l_), .imm 7 (obD d)]⟩, ⟨0, true, .cells 26 [.int .i64 k, .int .i64 n, .int .i64 f, .str s, .imm 6 (obL l'), .imm 7 (obD d')]⟩]) (fun x => d.length - x) 0 ⟨by simp, by simpa using hR2⟩ rfl ⟨rfl, rfl, rfl⟩ rfl ?_
        clear hR2
        rintro x ⟨i1, i2⟩
        by_cases hx : x < d.length
        · have hx2 : x < d'.length := by omega
          have hg := obD_get hx
          have hg2 := obD_get hx2
          have hC := ihd x hx hx2
          rw [List.drop_eq_getElem_cons hx, List.drop_eq_getElem_cons hx2] at i2
          unfold exD at i2
          rw [exE_eq] at i2
          rw [obE_eq] at hg hg2
          have hcs : ∃ c0 c1 c2 c3 c4 c5, obC d[x].2 = [c0, c1, c2, c3, c4, c5] := by cases d[x].2; exact ⟨_, _, _, _, _, _, rfl⟩
          have hcs2 : ∃ c0 c1 c2 c3 c4 c5, obC d'[x].2 = [c0, c1, c2, c3, c4, c5] := by cases d'[x].2; exact ⟨_, _, _, _, _, _, rfl⟩
          obtain ⟨c0, c1, c2, c3, c4, c5, hc1⟩ := hcs
          obtain ⟨d0, d1, d2, d3, d4, d5, hc2⟩ := hcs2
          rw [hc1] at hg hC
          rw [hc2] at hg2 hC
          generalize exO d[x].2 d'[x].2 = y at *
          generalize d[x].1 = ka at *
          generalize d'[x].1 = kb at *
          have hxm : (x : Int) < ((obD d').length : Int) := by omega
          by_cases hab : ka = kb
          · subst hab
            rw [decide_eq_true rfl, Bool.true_and] at i2
            cases y with
            | false =>
              rw [Bool.false_and] at i2
              conv => whnf
              repeat' (first
                | (rw [hg]; conv => whnf)
                | (rw [hg2]; conv => whnf)
                | (refine And.intro ?_ ?_; (focus (first | omega | decide | (unfold inI64; omega) | (simp only [List.length_append, List.length_cons, List.length_nil] <;> omega) | (refine ⟨?_, ?_⟩ <;> omega) | (refine ⟨?_, ?_, ?_, ?_, ?_, ?_⟩ <;> first | rfl | trivial | decide | omega | (simp [bytesAV_length] <;> omega)) | (simp <;> omega) | (unfold inI64; simp only [List.length_append, List.length_cons, List.length_nil] <;> omega))); conv => whnf)
                | (refine brD (fun _ => ?_) (fun _ => ?_) <;> first | (exfalso; omega) | (conv => whnf))
                | (refine brB (fun _ => ?_) (fun _ => ?_) <;> conv => whnf)
                | ((first | refine CallG.e (hC) ?_ | refine CallD.e (hC) ?_ | refine CallQ.e (hC) ?_ | refine CallP.e (hC) ?_); conv => whnf)
                | ((first | refine CallG.e (hxm) ?_ | refine CallD.e (hxm) ?_ | refine CallQ.e (hxm) ?_ | refine CallP.e (hxm) ?_); conv => whnf))
              all_goals first | contradiction | exact RetG.drop rfl rfl rfl ⟨rfl, by rw [← i2], rfl⟩
            | true =>
              rw [Bool.true_and] at i2
              conv => whnf
              repeat' (first
                | (rw [hg]; conv => whnf)
                | (rw [hg2]; conv => whnf)
                | (refine And.intro ?_ ?_; (focus (first | omega | decide | (unfold inI64; omega) | (simp only [List.length_append, List.length_cons, List.length_nil] <;> omega) | (refine ⟨?_, ?_⟩ <;> omega) | (refine ⟨?_, ?_, ?_, ?_, ?_, ?_⟩ <;> first | rfl | trivial | decide | omega | (simp [bytesAV_length] <;> omega)) | (simp <;> omega) | (unfold inI64; simp only [List.length_append, List.length_cons, List.length_nil] <;> omega))); conv => whnf)
                | (refine brD (fun _ => ?_) (fun _ => ?_) <;> first | (exfalso; omega) | (conv => whnf))
                | (refine brB (fun _ => ?_) (fun _ => ?_) <;> conv => whnf)
                | ((first | refine CallG.e (hC) ?_ | refine CallD.e (hC) ?_ | refine CallQ.e (hC) ?_ | refine CallP.e (hC) ?_); conv => whnf)
                | ((first | refine CallG.e (hxm) ?_ | refine CallD.e (hxm) ?_ | refine CallQ.e (hxm) ?_ | refine CallP.e (hxm) ?_); conv => whnf))
              all_goals first | contradiction | exact ⟨x + 1, ⟨⟨by omega, i2⟩, by omega⟩, Wk.slots rfl ⟨rfl, rfl, rfl⟩⟩
          · rw [decide_eq_false hab, Bool.false_and, Bool.false_and] at i2
            conv => whnf
            repeat' (first
              | (rw [hg]; conv => whnf)
              | (rw [hg2]; conv => whnf)
              | (refine And.intro ?_ ?_; (focus (first | omega | decide | (unfold inI64; omega) | (simp only [List.length_append, List.length_cons, List.length_nil] <;> omega) | (refine ⟨?_, ?_⟩ <;> omega) | (refine ⟨?_, ?_, ?_, ?_, ?_, ?_⟩ <;> first | rfl | trivial | decide | omega | (simp [bytesAV_length] <;> omega)) | (simp <;> omega) | (unfold inI64; simp only [List.length_append, List.length_cons, List.length_nil] <;> omega))); conv => whnf)
              | (refine brD (fun _ => ?_) (fun _ => ?_) <;> first | (exfalso; omega) | (conv => whnf))
              | (refine brB (fun _ => ?_) (fun _ => ?_) <;> conv => whnf)
              | ((first | refine CallG.e (hxm) ?_ | refine CallD.e (hxm) ?_ | refine CallQ.e (hxm) ?_ | refine CallP.e (hxm) ?_); conv => whnf))
            all_goals first | (exfalso; simp_all; done) | exact RetG.drop rfl rfl rfl ⟨rfl, by rw [← i2], rfl⟩
        · have hxe : x = d.length := by omega
          subst hxe
          rw [List.drop_length] at i2
          conv => whnf
          repeat' (first
            | (refine And.intro ?_ ?_; (focus (first | omega | decide | (unfold inI64; omega) | (simp only [List.length_append, List.length_cons, List.length_nil] <;> omega) | (refine ⟨?_, ?_⟩ <;> omega) | (refine ⟨?_, ?_, ?_, ?_, ?_, ?_⟩ <;> first | rfl | trivial | decide | omega | (simp [bytesAV_length] <;> omega)) | (simp <;> omega) | (unfold inI64; simp only [List.length_append, List.length_cons, List.length_nil] <;> omega))); conv => whnf)
            | (refine brD (fun _ => ?_) (fun _ => ?_) <;> first | (exfalso; omega) | (conv => whnf))
            | (refine brB (fun _ => ?_) (fun _ => ?_) <;> conv => whnf))
          exact RetG.drop rfl rfl rfl ⟨rfl, by rw [← i2]; simp [exD], rfl⟩
    · rw [decide_eq_false heq, Bool.false_and]
      conv => whnf
      repeat' (first
        | (refine And.intro ?_ ?_; (focus (first | omega | decide | (unfold inI64; omega) | (simp only [List.length_append, List.length_cons, List.length_nil] <;> omega) | (refine ⟨?_, ?_⟩ <;> omega) | (refine ⟨?_, ?_, ?_, ?_, ?_, ?_⟩ <;> first | rfl | trivial | decide | omega | (simp [bytesAV_length] <;> omega)) | (simp <;> omega) | (unfold inI64; simp only [List.length_append, List.length_cons, List.length_nil] <;> omega))); conv => whnf)
        | (refine brD (fun _ => ?_) (fun _ => ?_) <;> first | (exfalso; omega) | (conv => whnf))
        | (refine brB (fun _ => ?_) (fun _ => ?_) <;> conv => whnf))
      all_goals first | exact RetG.drop rfl rfl rfl ⟨rfl, rfl, rfl⟩ | (exfalso; apply heq; refine ⟨Decidable.not_not.mp (by assumption), Decidable.not_not.mp (by assumption), Decidable.not_not.mp (by assumption), Decidable.not_not.mp (by assumption), by omega, by omega⟩)
end Ink.D

namespace Ink.D
open Go Go.Proofs
set_option maxRecDepth 100000
set_option linter.unusedSimpArgs false
set_option linter.unusedVariables false

abbrev DL := List (List UInt8 × Ob)
/-- what stands under a name -/
def lk : DL → List UInt8 → Option Ob
  | [], _ => none
  | e :: r, key => if e.1 = key then some e.2 else lk r key

theorem lk_none {d : DL} {key : List UInt8} (h : ∀ e ∈ d, e.1 ≠ key) : lk d key = none := by
  induction d with
  | nil => rfl
  | cons e d ih =>
    unfold lk
    rw [if_neg (h e (by simp)), ih (fun x hx => h x (by simp [hx]))]

theorem lk_append (a b : DL) (key : List UInt8) : lk (a ++ b) key = match lk a key with | some v => some v | none => lk b key := by
  induction a with
  | nil => rfl
  | cons e a ih =>
    simp only [List.cons_append, lk]
    split
    · rfl
    · exact ih

theorem lk_drop (key other : List UInt8) (d : DL) (h : other ≠ key) : lk (dropD key d) other = lk d other := by
  induction d with
  | nil => rfl
  | cons e d ih =>
    by_cases he : e.1 = key
    · have e1 : dropD key (e :: d) = dropD key d := by unfold dropD; rw [List.filter_cons_of_neg]; simp [he]
      rw [e1, ih, lk, if_neg (by rw [he]; exact Ne.symm h)]
    · have e1 : dropD key (e :: d) = e :: dropD key d := by unfold dropD; rw [List.filter_cons_of_pos]; simp [he]
      rw [e1, lk, lk, ih]

theorem dropD_free (key : List UInt8) (d : DL) : ∀ e ∈ dropD key d, e.1 ≠ key := by
  intro e he
  unfold dropD at he
  have := (List.mem_filter.mp he).2
  simpa using this

theorem getD'_lk (d : DL) (key : List UInt8) : getD' d key = (lk d key).getD ob00 := by
  rcases ixK_cases key d 0 with ⟨h1, h2⟩ | ⟨p, hp, h1, h2, h3⟩
  · rw [lk_none h2]
    unfold getD'
    rw [h1]
    split
    · rw [if_neg (by decide)]; rfl
    · rfl
  · rw [Int.zero_add] at h1
    rw [getD'_at h1 hp]
    have e : d = d.take p ++ d[p] :: d.drop (p + 1) := by rw [← List.drop_eq_getElem_cons hp, List.take_append_drop]
    have : lk d key = some d[p].2 := by
      conv => lhs; rw [e]
      rw [lk_append, lk_none h3]
      simp only [lk]
      rw [if_pos h2]
    rw [this]; rfl

theorem lk_ins (p : Nat) (key other : List UInt8) (v : Ob) (d : DL) (h : other ≠ key) : lk (insD p (key, v) d) other = lk d other := by
  unfold insD
  rw [lk_append]
  have e : lk ((key, v) :: d.drop p) other = lk (d.drop p) other := by rw [lk, if_neg (Ne.symm h)]
  rw [e]
  conv => rhs; rw [← List.take_append_drop p d, lk_append]

theorem lk_set_other (d : DL) (key other : List UInt8) (v : Ob) (h : other ≠ key) : lk (setD d key v) other = lk d other := by
  unfold setD
  split
  · exact lk_drop key other d h
  · split
    · rw [lk_append, lk_drop key other d h]
      have e : lk [(key, v)] other = none := by rw [lk, if_neg (Ne.symm h)]; rfl
      rw [e]
      cases lk d other <;> rfl
    · rw [lk_ins _ _ _ _ _ h, lk_drop key other d h]

theorem lk_set_null (d : DL) (key : List UInt8) (v : Ob) (hv : v.kind = 0) : lk (setD d key v) key = none := by
  unfold setD
  rw [if_pos hv]
  exact lk_none (dropD_free key d)

theorem lk_set_key (d : DL) (key : List UInt8) (v : Ob) (hv : v.kind ≠ 0) : lk (setD d key v) key = some v := by
  have hf := dropD_free key d
  unfold setD
  rw [if_neg hv]
  split
  · rw [lk_append, lk_none hf]; simp [lk]
  · unfold insD
    rw [lk_append, lk_none (fun e he => hf e (List.mem_of_mem_take he))]
    simp [lk]

theorem ixK_mid (A B : DL) (key : List UInt8) (v : Ob) (hA : ∀ e ∈ A, e.1 ≠ key) : ixK key (A ++ (key, v) :: B) 0 = A.length := by
  have hlt : A.length < (A ++ (key, v) :: B).length := by simp
  have hat : (A ++ (key, v) :: B)[A.length]'hlt = (key, v) := by simp
  rcases ixK_cases key (A ++ (key, v) :: B) 0 with ⟨_, h2⟩ | ⟨p, hp, h1, h2, h3⟩
  · exact absurd rfl (h2 (key, v) (by simp))
  · rw [h1, Int.zero_add]
    have hge : ¬ p < A.length := by
      intro h
      rw [List.getElem_append_left h] at h2
      exact hA _ (List.getElem_mem h) h2
    have hle : ¬ A.length < p := by
      intro h
      refine h3 (key, v) ?_ rfl
      rw [List.take_append]
      have : p - A.length = (p - A.length - 1) + 1 := by omega
      rw [this, List.take_succ_cons]
      simp
    have : p = A.length := by omega
    rw [this]

theorem dropD_mid (A B : DL) (key : List UInt8) (v : Ob) (hA : ∀ e ∈ A, e.1 ≠ key) (hB : ∀ e ∈ B, e.1 ≠ key) : dropD key (A ++ (key, v) :: B) = A ++ B := by
  have e : dropD key ((key, v) :: B) = dropD key B := by unfold dropD; rw [List.filter_cons_of_neg]; simp
  rw [dropD_append, e, dropD_none hA, dropD_none hB]

theorem set_set (d : DL) (key : List UInt8) (v : Ob) : setD (setD d key v) key v = setD d key v := by
  have hf := dropD_free key d
  by_cases hv : v.kind = 0
  · unfold setD
    simp only [if_pos hv]
    exact dropD_none hf
  · have gen : ∀ (A B : DL), (∀ e ∈ A, e.1 ≠ key) → (∀ e ∈ B, e.1 ≠ key) → setD (A ++ (key, v) :: B) key v = A ++ (key, v) :: B := by
      intro A B hA hB
      unfold setD
      rw [if_neg hv, ixK_mid A B key v hA, if_neg (by omega), dropD_mid A B key v hA hB, Int.toNat_natCast]
      unfold insD
      rw [List.take_left, List.drop_left]
    have hs : ∃ A B : DL, setD d key v = A ++ (key, v) :: B ∧ (∀ e ∈ A, e.1 ≠ key) ∧ (∀ e ∈ B, e.1 ≠ key) := by
      unfold setD
      rw [if_neg hv]
      split
      · exact ⟨dropD key d, [], rfl, hf, by simp⟩
      · exact ⟨_, _, rfl, fun e he => hf e (List.mem_of_mem_take he), fun e he => hf e (List.mem_of_mem_drop he)⟩
    obtain ⟨A, B, h1, h2, h3⟩ := hs
    rw [h1]
    exact gen A B h2 h3
end Ink.D

namespace Ink.D
open Go Go.Proofs
set_option maxRecDepth 100000
set_option linter.unusedSimpArgs false
set_option linter.unusedVariables false
variable {E : Env} (hE : E.P = Tryz.prog)

theorem countD_drop (key : List UInt8) (d : DL) : countD (dropD key d) ≤ countD d := by
  induction d with
  | nil => simp [dropD]
  | cons e d ih =>
    by_cases he : e.1 = key
    · have e1 : dropD key (e :: d) = dropD key d := by unfold dropD; rw [List.filter_cons_of_neg]; simp [he]
      rw [e1]; simp only [countD]; omega
    · have e1 : dropD key (e :: d) = e :: dropD key d := by unfold dropD; rw [List.filter_cons_of_pos]; simp [he]
      rw [e1]; simp only [countD]; omega

theorem countD_set (d : DL) (key : List UInt8) (v : Ob) : countD (setD d key v) ≤ countD d + countO v := by
  have := countD_drop key d
  unfold setD
  split
  · omega
  · split
    · rw [countD_app]; simp [countD, countE]; omega
    · unfold insD
      rw [countD_app]
      simp only [countD, countE]
      have h2 := countD_app ((dropD key d).take (ixK key d 0).toNat) ((dropD key d).drop (ixK key d 0).toNat)
      rw [List.take_append_drop] at h2
      omega

theorem countO_lk {d : DL} {key : List UInt8} {v : Ob} (h : lk d key = some v) : countO v ≤ countD d := by
  induction d with
  | nil => cases h
  | cons e d ih =>
    unfold lk at h
    simp only [countD, countE_eq]
    split at h
    · cases h; omega
    · have := ih h; omega

theorem countO_get (d : DL) (key : List UInt8) : countO (getD' d key) ≤ countD d + 1 := by
  rw [getD'_lk]
  cases h : lk d key with
  | none => simp [countO, countL, countD]
  | some v => have := countO_lk h; simp; omega

abbrev raw0 : AV := .agg [.int .i64 0, .int .i64 0, .int .i64 0, .str [], nilA, nilA]

include hE
set_option maxHeartbeats 8000000 in
theorem cosSets (o : Ob) (v : Ob) (ho : wfO o) (hv : wfO v) (key other : List UInt8) (hk0 : key.length ≤ 140737488351232) (hk1 : other.length ≤ 140737488351232) : PCalls E 3 [.agg (obC o), .str key, .str other, .agg (obC v)] (· = .bool true) := by
  have hA := awake30 hE
  have hFa := few37 hE o ho 2000 (by decide) (by decide)
  have hFb := few37 hE v hv 2000 (by decide) (by decide)
  have sa := few_small _ o 2000 0 (Nat.lt_succ_self _)
  have sb := few_small _ v 2000 0 (Nat.lt_succ_self _)
  generalize fewO o 2000 0 = fa at *
  generalize fewO v 2000 0 = fb at *
  have hbA := fun n0 => obC_hb (n0 := n0) o
  have hbB := fun n0 => obC_hb (n0 := n0) v
  by_cases hg : 0 ≤ fa ∧ 0 ≤ fb ∧ key.length + other.length ≤ 300
  · obtain ⟨g1, g2, g3⟩ := hg
    have sa := sa g1
    have sb := sb g2
    rw [decide_eq_true g1] at hFa
    rw [decide_eq_true g2] at hFb
    have ca : countO o ≤ 2000 := by omega
    have cb : countO v ≤ 2000 := by omega
    obtain ⟨k, n, f, s, l_, d⟩ := o
    have cd : countD d ≤ 2000 := by simp [countO] at ca; omega
    have cl : countL l_ + countD d ≤ 2000 := by simp [countO] at ca; omega
    have hdl := countD_len d
    by_cases hkd : k = 6 ∨ k = 8
    · have hset := set hE (.mk k n f s l_ d) key v (fun k n f s l d' h => by cases h; unfold big; omega)
      have eA : setL (.mk k n f s l_ d) key v = .mk k n f s l_ (setD d key v) := by simp [setL, hkd]
      rw [eA] at hset
      have cA := countD_set d key v
      have hAl := countD_len (setD d key v)
      have hset2 := set hE (.mk k n f s l_ (setD d key v)) key v (fun k n f s l d' h => by cases h; unfold big; omega)
      have eA2 : setL (.mk k n f s l_ (setD d key v)) key v = .mk k n f s l_ (setD d key v) := by simp [setL, hkd, set_set]
      rw [eA2] at hset2
      have hdel := set hE (.mk k n f s l_ (setD d key v)) key ob00 (fun k n f s l d' h => by cases h; unfold big; omega)
      have eB : setL (.mk k n f s l_ (setD d key v)) key ob00 = .mk k n f s l_ (setD (setD d key v) key ob00) := by simp [setL, hkd]
      rw [eB] at hdel
      have cB := countD_set (setD d key v) key ob00
      have hBl := countD_len (setD (setD d key v) key ob00)
      have c00 : countO ob00 = 1 := by simp [countO, countL, countD]
      have hGA := get35 hE k n f s l_ (setD d key v) key (by unfold big; omega)
      have hGB := get35 hE k n f s l_ (setD (setD d key v) key ob00) key (by unfold big; omega)
      have hGAo := get35 hE k n f s l_ (setD d key v) other (by unfold big; omega)
      have hGO := get35 hE k n f s l_ d other (by unfold big; omega)
      have g : ∀ (d' : DL) (x : List UInt8), getL (.mk k n f s l_ d') x = getD' d' x := fun d' x => by
        show (if k = 6 ∨ k = 8 then getD' d' x else ob00) = _
        rw [if_pos hkd]
      rw [g] at hGA hGB hGAo hGO
      have eGB : getD' (setD (setD d key v) key ob00) key = ob00 := by rw [getD'_lk, lk_set_null _ _ _ rfl]; rfl
      rw [eGB] at hGB
      have hX3 := exact8 hE _ (.mk k n f s l_ (setD d key v)) (.mk k n f s l_ (setD d key v)) (Nat.lt_succ_self _) (by simp only [countO]; unfold big; omega) (by simp only [countO]; unfold big; omega)
      rw [ex_refl _ _ (Nat.lt_succ_self _)] at hX3
      have cW := countO_get d other
      have hX2 := exact8 hE _ (getD' d other) (getD' d other) (Nat.lt_succ_self _) (by unfold big; omega) (by unfold big; omega)
      rw [ex_refl _ _ (Nat.lt_succ_self _)] at hX2
      have hX4 := (exact8 hE _ ob00 ob00 (Nat.lt_succ_self _) (by rw [c00]; unfold big; omega) (by rw [c00]; unfold big; omega)).pub (args' := [.agg (obC ob00), raw0]) (fun n => ⟨.same _ (by simp [hb, obC_hb]), pubOb 0 0 0 [], trivial⟩)
      rw [ex_refl _ _ (Nat.lt_succ_self _)] at hX4
      have hX1 := exact8 hE _ v v (Nat.lt_succ_self _) (by unfold big; omega) (by unfold big; omega)
      rw [ex_refl _ _ (Nat.lt_succ_self _)] at hX1
      have hX0 := exact8 hE _ ob00 v (Nat.lt_succ_self _) (by rw [c00]; unfold big; omega) (by unfold big; omega)
      have hdel2 := hdel.pub (args' := [.agg (obC (.mk k n f s l_ (setD d key v))), .str key, raw0]) (fun n => ⟨.same _ (by simp [hb, obC_hb]), .same _ rfl, pubOb 0 0 0 [], trivial⟩)
      clear hdel
      have eo : key ≠ other → getD' (setD d key v) other = getD' d other := fun h => by rw [getD'_lk, getD'_lk, lk_set_other d key other v (Ne.symm h)]
      have ek0 : v.kind = 0 → getD' (setD d key v) key = ob00 := fun h => by rw [getD'_lk, lk_set_null d key v h]; rfl
      have ek1 : v.kind ≠ 0 → getD' (setD d key v) key = v := fun h => by rw [getD'_lk, lk_set_key d key v h]; rfl
      generalize exO ob00 v = y0 at *
      generalize setD (setD d key v) key ob00 = dB at *
      generalize setD d key v = dA at *
      clear eA eA2 eB g eGB cA cB hAl hBl c00 ho hv
      generalize getD' dA other = W1 at *
      generalize getD' d other = W at *
      generalize getD' dA key = V1 at *
      obtain ⟨vk, vn, vf, vs, vl, vd⟩ := v
      unfold Ob.kind at ek0 ek1
      simp only at ek0 ek1
      have hi0 : inI64 ((key.length : Int) + (other.length : Int)) := by unfold inI64; omega
      by_cases hvk : vk = 0
      · have ek0 := ek0 hvk
        subst ek0
        by_cases hko : key = other
        · subst hko
          obtain ⟨wk, wn, wf, ws, wl, wd⟩ := W
          obtain ⟨uk, un, uf, us, ul, ud⟩ := W1
          unfold obC at *
          refine p3 hE (fun l => ?_) (by simp [hbL, hb] at hbA hbB ⊢; simp [hbA, hbB])
          conv => whnf
          repeat' (first
            | (refine And.intro ?_ ?_; (focus (first | omega | decide | (unfold inI64; omega) | (simp only [List.length_append, List.length_cons, List.length_nil] <;> omega) | (refine ⟨?_, ?_⟩ <;> omega) | (refine ⟨?_, ?_, ?_, ?_, ?_, ?_⟩ <;> first | rfl | trivial | decide | omega | (simp [bytesAV_length] <;> omega)) | (simp <;> omega) | (unfold inI64; simp only [List.length_append, List.length_cons, List.length_nil] <;> omega))); conv => whnf)
            | (refine brD (fun _ => ?_) (fun _ => ?_) <;> first | (exfalso; omega) | (conv => whnf))
            | (refine brB (fun _ => ?_) (fun _ => ?_) <;> conv => whnf)
            | ((first | refine CallG.e (hA) ?_ | refine CallD.e (hA) ?_ | refine CallQ.e (hA) ?_ | refine CallP.e (hA) ?_); conv => whnf)
            | ((first | refine CallG.e (hFa) ?_ | refine CallD.e (hFa) ?_ | refine CallQ.e (hFa) ?_ | refine CallP.e (hFa) ?_); conv => whnf)
            | ((first | refine CallG.e (hFb) ?_ | refine CallD.e (hFb) ?_ | refine CallQ.e (hFb) ?_ | refine CallP.e (hFb) ?_); conv => whnf)
            | ((first | refine CallG.e (hi0) ?_ | refine CallD.e (hi0) ?_ | refine CallQ.e (hi0) ?_ | refine CallP.e (hi0) ?_); conv => whnf)
            | ((first | refine CallG.e (hset) ?_ | refine CallD.e (hset) ?_ | refine CallQ.e (hset) ?_ | refine CallP.e (hset) ?_); conv => whnf)
            | ((first | refine CallG.e (hdel2) ?_ | refine CallD.e (hdel2) ?_ | refine CallQ.e (hdel2) ?_ | refine CallP.e (hdel2) ?_); conv => whnf)
            | ((first | refine CallG.e (hGA) ?_ | refine CallD.e (hGA) ?_ | refine CallQ.e (hGA) ?_ | refine CallP.e (hGA) ?_); conv => whnf)
            | ((first | refine CallG.e (hX0) ?_ | refine CallD.e (hX0) ?_ | refine CallQ.e (hX0) ?_ | refine CallP.e (hX0) ?_); conv => whnf)
            | ((first | refine CallG.e (hGB) ?_ | refine CallD.e (hGB) ?_ | refine CallQ.e (hGB) ?_ | refine CallP.e (hGB) ?_); conv => whnf)
            | ((first | refine CallG.e (hset2) ?_ | refine CallD.e (hset2) ?_ | refine CallQ.e (hset2) ?_ | refine CallP.e (hset2) ?_); conv => whnf)
            | ((first | refine CallG.e (hX3) ?_ | refine CallD.e (hX3) ?_ | refine CallQ.e (hX3) ?_ | refine CallP.e (hX3) ?_); conv => whnf)
            | ((first | refine CallG.e (hX4) ?_ | refine CallD.e (hX4) ?_ | refine CallQ.e (hX4) ?_ | refine CallP.e (hX4) ?_); conv => whnf))
          all_goals first | exact RetG.drop rfl rfl rfl ⟨rfl, rfl, rfl⟩ | (rename_i h; exact absurd rfl h)
        · have eo := eo hko
          subst eo
          obtain ⟨wk, wn, wf, ws, wl, wd⟩ := W1
          unfold obC at *
          refine p3 hE (fun l => ?_) (by simp [hbL, hb] at hbA hbB ⊢; simp [hbA, hbB])
          conv => whnf
          repeat' (first
            | (refine And.intro ?_ ?_; (focus (first | omega | decide | (unfold inI64; omega) | (simp only [List.length_append, List.length_cons, List.length_nil] <;> omega) | (refine ⟨?_, ?_⟩ <;> omega) | (refine ⟨?_, ?_, ?_, ?_, ?_, ?_⟩ <;> first | rfl | trivial | decide | omega | (simp [bytesAV_length] <;> omega)) | (simp <;> omega) | (unfold inI64; simp only [List.length_append, List.length_cons, List.length_nil] <;> omega))); conv => whnf)
            | (refine brD (fun _ => ?_) (fun _ => ?_) <;> first | (exfalso; omega) | (conv => whnf))
            | (refine brB (fun _ => ?_) (fun _ => ?_) <;> conv => whnf)
            | ((first | refine CallG.e (hA) ?_ | refine CallD.e (hA) ?_ | refine CallQ.e (hA) ?_ | refine CallP.e (hA) ?_); conv => whnf)
            | ((first | refine CallG.e (hFa) ?_ | refine CallD.e (hFa) ?_ | refine CallQ.e (hFa) ?_ | refine CallP.e (hFa) ?_); conv => whnf)
            | ((first | refine CallG.e (hFb) ?_ | refine CallD.e (hFb) ?_ | refine CallQ.e (hFb) ?_ | refine CallP.e (hFb) ?_); conv => whnf)
            | ((first | refine CallG.e (hi0) ?_ | refine CallD.e (hi0) ?_ | refine CallQ.e (hi0) ?_ | refine CallP.e (hi0) ?_); conv => whnf)
            | ((first | refine CallG.e (hset) ?_ | refine CallD.e (hset) ?_ | refine CallQ.e (hset) ?_ | refine CallP.e (hset) ?_); conv => whnf)
            | ((first | refine CallG.e (hdel2) ?_ | refine CallD.e (hdel2) ?_ | refine CallQ.e (hdel2) ?_ | refine CallP.e (hdel2) ?_); conv => whnf)
            | ((first | refine CallG.e (hGA) ?_ | refine CallD.e (hGA) ?_ | refine CallQ.e (hGA) ?_ | refine CallP.e (hGA) ?_); conv => whnf)
            | ((first | refine CallG.e (hX0) ?_ | refine CallD.e (hX0) ?_ | refine CallQ.e (hX0) ?_ | refine CallP.e (hX0) ?_); conv => whnf)
            | ((first | refine CallG.e (hGB) ?_ | refine CallD.e (hGB) ?_ | refine CallQ.e (hGB) ?_ | refine CallP.e (hGB) ?_); conv => whnf)
            | ((first | refine CallG.e (hGAo) ?_ | refine CallD.e (hGAo) ?_ | refine CallQ.e (hGAo) ?_ | refine CallP.e (hGAo) ?_); conv => whnf)
            | ((first | refine CallG.e (hGO) ?_ | refine CallD.e (hGO) ?_ | refine CallQ.e (hGO) ?_ | refine CallP.e (hGO) ?_); conv => whnf)
            | ((first | refine CallG.e (hX2) ?_ | refine CallD.e (hX2) ?_ | refine CallQ.e (hX2) ?_ | refine CallP.e (hX2) ?_); conv => whnf)
            | ((first | refine CallG.e (hset2) ?_ | refine CallD.e (hset2) ?_ | refine CallQ.e (hset2) ?_ | refine CallP.e (hset2) ?_); conv => whnf)
            | ((first | refine CallG.e (hX3) ?_ | refine CallD.e (hX3) ?_ | refine CallQ.e (hX3) ?_ | refine CallP.e (hX3) ?_); conv => whnf)
            | ((first | refine CallG.e (hX4) ?_ | refine CallD.e (hX4) ?_ | refine CallQ.e (hX4) ?_ | refine CallP.e (hX4) ?_); conv => whnf))
          all_goals first | exact RetG.drop rfl rfl rfl ⟨rfl, rfl, rfl⟩ | (rename_i h; exact absurd rfl h)
      · have ek1 := ek1 hvk
        subst ek1
        by_cases hko : key = other
        · subst hko
          obtain ⟨wk, wn, wf, ws, wl, wd⟩ := W
          obtain ⟨uk, un, uf, us, ul, ud⟩ := W1
          unfold obC at *
          refine p3 hE (fun l => ?_) (by simp [hbL, hb] at hbA hbB ⊢; simp [hbA, hbB])
          conv => whnf
          repeat' (first
            | (refine And.intro ?_ ?_; (focus (first | omega | decide | (unfold inI64; omega) | (simp only [List.length_append, List.length_cons, List.length_nil] <;> omega) | (refine ⟨?_, ?_⟩ <;> omega) | (refine ⟨?_, ?_, ?_, ?_, ?_, ?_⟩ <;> first | rfl | trivial | decide | omega | (simp [bytesAV_length] <;> omega)) | (simp <;> omega) | (unfold inI64; simp only [List.length_append, List.length_cons, List.length_nil] <;> omega))); conv => whnf)
            | (refine brD (fun _ => ?_) (fun _ => ?_) <;> first | (exfalso; omega) | (conv => whnf))
            | (refine brB (fun _ => ?_) (fun _ => ?_) <;> conv => whnf)
            | ((first | refine CallG.e (hA) ?_ | refine CallD.e (hA) ?_ | refine CallQ.e (hA) ?_ | refine CallP.e (hA) ?_); conv => whnf)
            | ((first | refine CallG.e (hFa) ?_ | refine CallD.e (hFa) ?_ | refine CallQ.e (hFa) ?_ | refine CallP.e (hFa) ?_); conv => whnf)
            | ((first | refine CallG.e (hFb) ?_ | refine CallD.e (hFb) ?_ | refine CallQ.e (hFb) ?_ | refine CallP.e (hFb) ?_); conv => whnf)
            | ((first | refine CallG.e (hi0) ?_ | refine CallD.e (hi0) ?_ | refine CallQ.e (hi0) ?_ | refine CallP.e (hi0) ?_); conv => whnf)
            | ((first | refine CallG.e (hset) ?_ | refine CallD.e (hset) ?_ | refine CallQ.e (hset) ?_ | refine CallP.e (hset) ?_); conv => whnf)
            | ((first | refine CallG.e (hdel2) ?_ | refine CallD.e (hdel2) ?_ | refine CallQ.e (hdel2) ?_ | refine CallP.e (hdel2) ?_); conv => whnf)
            | ((first | refine CallG.e (hGA) ?_ | refine CallD.e (hGA) ?_ | refine CallQ.e (hGA) ?_ | refine CallP.e (hGA) ?_); conv => whnf)
            | ((first | refine CallG.e (hX1) ?_ | refine CallD.e (hX1) ?_ | refine CallQ.e (hX1) ?_ | refine CallP.e (hX1) ?_); conv => whnf)
            | ((first | refine CallG.e (hGB) ?_ | refine CallD.e (hGB) ?_ | refine CallQ.e (hGB) ?_ | refine CallP.e (hGB) ?_); conv => whnf)
            | ((first | refine CallG.e (hset2) ?_ | refine CallD.e (hset2) ?_ | refine CallQ.e (hset2) ?_ | refine CallP.e (hset2) ?_); conv => whnf)
            | ((first | refine CallG.e (hX3) ?_ | refine CallD.e (hX3) ?_ | refine CallQ.e (hX3) ?_ | refine CallP.e (hX3) ?_); conv => whnf))
          all_goals first | exact RetG.drop rfl rfl rfl ⟨rfl, rfl, rfl⟩ | (rename_i h; exact absurd rfl h)
        · have eo := eo hko
          subst eo
          obtain ⟨wk, wn, wf, ws, wl, wd⟩ := W1
          unfold obC at *
          refine p3 hE (fun l => ?_) (by simp [hbL, hb] at hbA hbB ⊢; simp [hbA, hbB])
          conv => whnf
          repeat' (first
            | (refine And.intro ?_ ?_; (focus (first | omega | decide | (unfold inI64; omega) | (simp only [List.length_append, List.length_cons, List.length_nil] <;> omega) | (refine ⟨?_, ?_⟩ <;> omega) | (refine ⟨?_, ?_, ?_, ?_, ?_, ?_⟩ <;> first | rfl | trivial | decide | omega | (simp [bytesAV_length] <;> omega)) | (simp <;> omega) | (unfold inI64; simp only [List.length_append, List.length_cons, List.length_nil] <;> omega))); conv => whnf)
            | (refine brD (fun _ => ?_) (fun _ => ?_) <;> first | (exfalso; omega) | (conv => whnf))
            | (refine brB (fun _ => ?_) (fun _ => ?_) <;> conv => whnf)
            | ((first | refine CallG.e (hA) ?_ | refine CallD.e (hA) ?_ | refine CallQ.e (hA) ?_ | refine CallP.e (hA) ?_); conv => whnf)
            | ((first | refine CallG.e (hFa) ?_ | refine CallD.e (hFa) ?_ | refine CallQ.e (hFa) ?_ | refine CallP.e (hFa) ?_); conv => whnf)
            | ((first | refine CallG.e (hFb) ?_ | refine CallD.e (hFb) ?_ | refine CallQ.e (hFb) ?_ | refine CallP.e (hFb) ?_); conv => whnf)
            | ((first | refine CallG.e (hi0) ?_ | refine CallD.e (hi0) ?_ | refine CallQ.e (hi0) ?_ | refine CallP.e (hi0) ?_); conv => whnf)
            | ((first | refine CallG.e (hset) ?_ | refine CallD.e (hset) ?_ | refine CallQ.e (hset) ?_ | refine CallP.e (hset) ?_); conv => whnf)
            | ((first | refine CallG.e (hdel2) ?_ | refine CallD.e (hdel2) ?_ | refine CallQ.e (hdel2) ?_ | refine CallP.e (hdel2) ?_); conv => whnf)
            | ((first | refine CallG.e (hGA) ?_ | refine CallD.e (hGA) ?_ | refine CallQ.e (hGA) ?_ | refine CallP.e (hGA) ?_); conv => whnf)
            | ((first | refine CallG.e (hX1) ?_ | refine CallD.e (hX1) ?_ | refine CallQ.e (hX1) ?_ | refine CallP.e (hX1) ?_); conv => whnf)
            | ((first | refine CallG.e (hGB) ?_ | refine CallD.e (hGB) ?_ | refine CallQ.e (hGB) ?_ | refine CallP.e (hGB) ?_); conv => whnf)
            | ((first | refine CallG.e (hGAo) ?_ | refine CallD.e (hGAo) ?_ | refine CallQ.e (hGAo) ?_ | refine CallP.e (hGAo) ?_); conv => whnf)
            | ((first | refine CallG.e (hGO) ?_ | refine CallD.e (hGO) ?_ | refine CallQ.e (hGO) ?_ | refine CallP.e (hGO) ?_); conv => whnf)
            | ((first | refine CallG.e (hX2) ?_ | refine CallD.e (hX2) ?_ | refine CallQ.e (hX2) ?_ | refine CallP.e (hX2) ?_); conv => whnf)
            | ((first | refine CallG.e (hset2) ?_ | refine CallD.e (hset2) ?_ | refine CallQ.e (hset2) ?_ | refine CallP.e (hset2) ?_); conv => whnf)
            | ((first | refine CallG.e (hX3) ?_ | refine CallD.e (hX3) ?_ | refine CallQ.e (hX3) ?_ | refine CallP.e (hX3) ?_); conv => whnf))
          all_goals first | exact RetG.drop rfl rfl rfl ⟨rfl, rfl, rfl⟩ | (rename_i h; exact absurd rfl h)
    · have hset := set hE (.mk k n f s l_ d) key v (fun k n f s l d' h => by cases h; unfold big; omega)
      have eA : setL (.mk k n f s l_ d) key v = .mk k n f s l_ d := by simp [setL, hkd]
      rw [eA] at hset
      have hX := exact8 hE _ (.mk k n f s l_ d) (.mk k n f s l_ d) (Nat.lt_succ_self _) (by unfold big; omega) (by unfold big; omega)
      rw [ex_refl _ _ (Nat.lt_succ_self _)] at hX
      have hi0 : inI64 ((key.length : Int) + (other.length : Int)) := by unfold inI64; omega
      obtain ⟨vk, vn, vf, vs, vl, vd⟩ := v
      unfold obC at *
      refine p3 hE (fun l => ?_) (by simp [hbL, hb] at hbA hbB ⊢; simp [hbA, hbB])
      conv => whnf
      repeat' (first
        | (refine And.intro ?_ ?_; (focus (first | omega | decide | (unfold inI64; omega) | (simp only [List.length_append, List.length_cons, List.length_nil] <;> omega) | (refine ⟨?_, ?_⟩ <;> omega) | (refine ⟨?_, ?_, ?_, ?_, ?_, ?_⟩ <;> first | rfl | trivial | decide | omega | (simp [bytesAV_length] <;> omega)) | (simp <;> omega) | (unfold inI64; simp only [List.length_append, List.length_cons, List.length_nil] <;> omega))); conv => whnf)
        | (refine brD (fun _ => ?_) (fun _ => ?_) <;> first | (exfalso; omega) | (conv => whnf))
        | (refine brB (fun _ => ?_) (fun _ => ?_) <;> conv => whnf)
        | ((first | refine CallG.e (hA) ?_ | refine CallD.e (hA) ?_ | refine CallQ.e (hA) ?_ | refine CallP.e (hA) ?_); conv => whnf)
        | ((first | refine CallG.e (hFa) ?_ | refine CallD.e (hFa) ?_ | refine CallQ.e (hFa) ?_ | refine CallP.e (hFa) ?_); conv => whnf)
        | ((first | refine CallG.e (hFb) ?_ | refine CallD.e (hFb) ?_ | refine CallQ.e (hFb) ?_ | refine CallP.e (hFb) ?_); conv => whnf)
        | ((first | refine CallG.e (hi0) ?_ | refine CallD.e (hi0) ?_ | refine CallQ.e (hi0) ?_ | refine CallP.e (hi0) ?_); conv => whnf)
        | ((first | refine CallG.e (hset) ?_ | refine CallD.e (hset) ?_ | refine CallQ.e (hset) ?_ | refine CallP.e (hset) ?_); conv => whnf)
        | ((first | refine CallG.e (hX) ?_ | refine CallD.e (hX) ?_ | refine CallQ.e (hX) ?_ | refine CallP.e (hX) ?_); conv => whnf))
      all_goals first | exact RetG.drop rfl rfl rfl ⟨rfl, rfl, rfl⟩ | (rename_i h; exact absurd rfl h)
  · have hi0 : inI64 ((key.length : Int) + (other.length : Int)) := by unfold inI64; omega
    obtain ⟨k, n, f, s, l_, d⟩ := o
    obtain ⟨vk, vn, vf, vs, vl, vd⟩ := v
    unfold obC at *
    refine p3 hE (fun l => ?_) (by simp [hbL, hb] at hbA hbB ⊢; simp [hbA, hbB])
    by_cases ga : 0 ≤ fa
    · rw [decide_eq_true ga] at hFa
      by_cases gb : 0 ≤ fb
      · rw [decide_eq_true gb] at hFb
        conv => whnf
        repeat' (first
          | (refine And.intro ?_ ?_; (focus (first | omega | decide | (unfold inI64; omega) | (simp only [List.length_append, List.length_cons, List.length_nil] <;> omega) | (refine ⟨?_, ?_⟩ <;> omega) | (refine ⟨?_, ?_, ?_, ?_, ?_, ?_⟩ <;> first | rfl | trivial | decide | omega | (simp [bytesAV_length] <;> omega)) | (simp <;> omega) | (unfold inI64; simp only [List.length_append, List.length_cons, List.length_nil] <;> omega))); conv => whnf)
          | (refine brD (fun _ => ?_) (fun _ => ?_) <;> first | (exfalso; omega) | (conv => whnf))
          | (refine brB (fun _ => ?_) (fun _ => ?_) <;> conv => whnf)
          | ((first | refine CallG.e (hA) ?_ | refine CallD.e (hA) ?_ | refine CallQ.e (hA) ?_ | refine CallP.e (hA) ?_); conv => whnf)
          | ((first | refine CallG.e (hFa) ?_ | refine CallD.e (hFa) ?_ | refine CallQ.e (hFa) ?_ | refine CallP.e (hFa) ?_); conv => whnf)
          | ((first | refine CallG.e (hFb) ?_ | refine CallD.e (hFb) ?_ | refine CallQ.e (hFb) ?_ | refine CallP.e (hFb) ?_); conv => whnf)
          | ((first | refine CallG.e (hi0) ?_ | refine CallD.e (hi0) ?_ | refine CallQ.e (hi0) ?_ | refine CallP.e (hi0) ?_); conv => whnf))
        all_goals first | exact RetG.drop rfl rfl rfl ⟨rfl, rfl, rfl⟩ | (rename_i h; exact absurd rfl h)
      · rw [decide_eq_false gb] at hFb
        conv => whnf
        repeat' (first
          | (refine And.intro ?_ ?_; (focus (first | omega | decide | (unfold inI64; omega) | (simp only [List.length_append, List.length_cons, List.length_nil] <;> omega) | (refine ⟨?_, ?_⟩ <;> omega) | (refine ⟨?_, ?_, ?_, ?_, ?_, ?_⟩ <;> first | rfl | trivial | decide | omega | (simp [bytesAV_length] <;> omega)) | (simp <;> omega) | (unfold inI64; simp only [List.length_append, List.length_cons, List.length_nil] <;> omega))); conv => whnf)
          | (refine brD (fun _ => ?_) (fun _ => ?_) <;> first | (exfalso; omega) | (conv => whnf))
          | (refine brB (fun _ => ?_) (fun _ => ?_) <;> conv => whnf)
          | ((first | refine CallG.e (hA) ?_ | refine CallD.e (hA) ?_ | refine CallQ.e (hA) ?_ | refine CallP.e (hA) ?_); conv => whnf)
          | ((first | refine CallG.e (hFa) ?_ | refine CallD.e (hFa) ?_ | refine CallQ.e (hFa) ?_ | refine CallP.e (hFa) ?_); conv => whnf)
          | ((first | refine CallG.e (hFb) ?_ | refine CallD.e (hFb) ?_ | refine CallQ.e (hFb) ?_ | refine CallP.e (hFb) ?_); conv => whnf)
          | ((first | refine CallG.e (hi0) ?_ | refine CallD.e (hi0) ?_ | refine CallQ.e (hi0) ?_ | refine CallP.e (hi0) ?_); conv => whnf))
        all_goals first | exact RetG.drop rfl rfl rfl ⟨rfl, rfl, rfl⟩ | (rename_i h; exact absurd rfl h)
    · rw [decide_eq_false ga] at hFa
      conv => whnf
      repeat' (first
        | (refine And.intro ?_ ?_; (focus (first | omega | decide | (unfold inI64; omega) | (simp only [List.length_append, List.length_cons, List.length_nil] <;> omega) | (refine ⟨?_, ?_⟩ <;> omega) | (refine ⟨?_, ?_, ?_, ?_, ?_, ?_⟩ <;> first | rfl | trivial | decide | omega | (simp [bytesAV_length] <;> omega)) | (simp <;> omega) | (unfold inI64; simp only [List.length_append, List.length_cons, List.length_nil] <;> omega))); conv => whnf)
        | (refine brD (fun _ => ?_) (fun _ => ?_) <;> first | (exfalso; omega) | (conv => whnf))
        | (refine brB (fun _ => ?_) (fun _ => ?_) <;> conv => whnf)
        | ((first | refine CallG.e (hA) ?_ | refine CallD.e (hA) ?_ | refine CallQ.e (hA) ?_ | refine CallP.e (hA) ?_); conv => whnf)
        | ((first | refine CallG.e (hFa) ?_ | refine CallD.e (hFa) ?_ | refine CallQ.e (hFa) ?_ | refine CallP.e (hFa) ?_); conv => whnf)
        | ((first | refine CallG.e (hi0) ?_ | refine CallD.e (hi0) ?_ | refine CallQ.e (hi0) ?_ | refine CallP.e (hi0) ?_); conv => whnf))
      all_goals first | exact RetG.drop rfl rfl rfl ⟨rfl, rfl, rfl⟩ | (rename_i h; exact absurd rfl h)
end Ink.D
