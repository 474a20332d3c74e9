import Derived.Test.YtogcalejbddjjaaGreatDoorTyQ3
set_option linter.all false
namespace Ink.D
open Go Go.Proofs
set_option maxRecDepth 100000
variable {E : Env} (hE : E.P = Tryz.prog)

theorem plainPL_take {l : List Ob} {x : Nat} (h : x < l.length) : plainPL (l.drop x) = (plainP l[x] && plainPL (l.drop (x + 1))) := by
  rw [List.drop_eq_getElem_cons h, plainPL]
theorem plainPD_take {l : List (List UInt8 × Ob)} {x : Nat} (h : x < l.length) : plainPD (l.drop x) = (plainP l[x].2 && plainPD (l.drop (x + 1))) := by
  rw [List.drop_eq_getElem_cons h, plainPD]
  generalize l[x] = e
  obtain ⟨a, o⟩ := e
  rfl

include hE
set_option maxHeartbeats 4000000 in
theorem plain48 : ∀ (N : Nat) (o : Ob), sizeOf o < N → countO o < big → PCalls E 48 [.agg (obC o)] (· = .bool (plainP o))
  | 0, o, h, _ => by omega
  | N + 1, .mk k n f s l_ d, hN, hc => by
    have hlen := countL_len l_
    have hdlen := countD_len d
    have hl := obL_len l_
    have hl2 := obD_length d
    unfold countO at hc
    have ihl : ∀ (x : Nat) (h : x < l_.length), PCalls E 48 [.agg (obC l_[x])] (· = .bool (plainP l_[x])) := fun x h => by
      have h1 := List.sizeOf_lt_of_mem (List.getElem_mem h)
      have h2 := countO_mem (List.getElem_mem h)
      exact plain48 N _ (by simp at hN; omega) (by omega)
    have ihd : ∀ (x : Nat) (h : x < d.length), PCalls E 48 [.agg (obC d[x].2)] (· = .bool (plainP d[x].2)) := fun x h => by
      have h1 := List.sizeOf_lt_of_mem (List.getElem_mem h)
      have h2 := countD_mem (List.getElem_mem h)
      have h3 : sizeOf d[x].2 < sizeOf d[x] := by generalize d[x] = e; obtain ⟨a, o⟩ := e; simp; omega
      exact plain48 N _ (by simp at hN; omega) (by omega)
    have hD : ∀ n0, hbLL n0 (obD d) = true := fun n0 => obD_hb d
    have hL : ∀ n0, hbLL n0 (obL l_) = true := fun n0 => obL_hb l_
    unfold big at hc
    unfold plainP
    generalize hP : decide (¬ ((k ≠ 1 ∧ k ≠ 2 ∧ n ≠ 0) ∨ (k ≠ 2 ∧ f ≠ 0) ∨ (k ≠ 3 ∧ k ≠ 4 ∧ s ≠ []) ∨ (k ≠ 5 ∧ 0 < l_.length) ∨ (k ≠ 6 ∧ 0 < d.length))) = P
    refine p48 hE (fun l => ?_) (by simp [hbL, hb, obC_hb])
    unfold obC
    refine wpc_join 3 90 (fun _ : Unit => P = true) (fun _ => [(1, .ptr 1 0 0)]) (fun _ => [⟨0, true, .frame l⟩, ⟨0, true, .cells 26 [.int .i64 k, .int .i64 n, .int .i64 f, .str s, .imm 6 (obL l_), .imm 7 (obD d)]⟩]) ?_ ?_
    · by_cases hs : s = []
      · subst hs
        simp only [ne_eq, not_true_eq_false, and_false, false_or] at hP
        conv => whnf
        repeat' (first
          | (refine And.intro W1 ?_; conv => whnf)
          | (refine brD (fun _ => ?_) (fun _ => ?_) <;> first | (exfalso; omega) | (conv => whnf))
          | (refine brB (fun _ => ?_) (fun _ => ?_) <;> conv => whnf))
        all_goals first | exact ⟨(), by rw [← hP]; simp only [decide_eq_true_eq]; omega, rfl, rfl⟩ | (exfalso; contradiction) | exact RetG.drop rfl rfl rfl ⟨rfl, by rw [show P = false by rw [← hP]; simp only [decide_eq_false_iff_not]; omega]; rfl, rfl⟩
      · simp only [ne_eq, hs, not_false_eq_true, and_true] at hP
        conv => whnf
        repeat' (first
          | (refine And.intro W1 ?_; conv => whnf)
          | (refine brD (fun _ => ?_) (fun _ => ?_) <;> first | (exfalso; omega) | (conv => whnf))
          | (refine brB (fun _ => ?_) (fun _ => ?_) <;> conv => whnf))
        all_goals first | exact ⟨(), by rw [← hP]; simp only [decide_eq_true_eq]; omega, rfl, rfl⟩ | (exfalso; contradiction) | exact RetG.drop rfl rfl rfl ⟨rfl, by rw [show P = false by rw [← hP]; simp only [decide_eq_false_iff_not]; omega]; rfl, rfl⟩
    rintro ⟨⟩ junk rfl
    clear hP
    generalize hR : (true && (plainPL l_ && plainPD d)) = R
    rw [Bool.true_and] at hR
    conv => whnf
    repeat' (first
      | (refine And.intro W1 ?_; conv => whnf)
      | (refine brD (fun _ => ?_) (fun _ => ?_) <;> first | (exfalso; omega) | (conv => whnf))
      | (refine brB (fun _ => ?_) (fun _ => ?_) <;> conv => whnf))
    refine LoopG.s (fun x : Nat => x ≤ l_.length ∧ (plainPL (l_.drop x) && plainPD d) = R) 90 (fun x => [(1, .ptr 1 0 0), (4, .int .i64 x)]) (fun _ => [⟨0, true, .frame l⟩, ⟨0, true, .cells 26 [.int .i64 k, .int .i64 n, .int .i64 f, .str s, .imm 6 (obL l_), .imm 7 (obD d)]⟩]) (fun x => l_.length - x) 0 ⟨by simp, by simpa using hR⟩ rfl ⟨rfl, rfl⟩ rfl ?_
    rintro x ⟨i1, i2⟩
    by_cases hx : x < l_.length
    · have hg := obL_at hx
      have hC := ihl x hx
      have htk := plainPL_take hx
      have hcs : ∃ c0 c1 c2 c3 c4 c5, obC l_[x] = [c0, c1, c2, c3, c4, c5] := by cases l_[x]; exact ⟨_, _, _, _, _, _, rfl⟩
      obtain ⟨c0, c1, c2, c3, c4, c5, hc⟩ := hcs
      rw [hc] at hg hC
      rw [htk] at i2
      generalize plainP l_[x] = q at *
      conv => whnf
      repeat' (first
        | (rw [hg]; conv => whnf)
        | (refine And.intro W1 ?_; conv => whnf)
        | (refine brD (fun _ => ?_) (fun _ => ?_) <;> first | (exfalso; omega) | (conv => whnf))
        | (refine brB (fun _ => ?_) (fun _ => ?_) <;> conv => whnf)
        | ((first | refine CallG.e hC ?_ | refine CallD.e hC ?_ | refine CallQ.e hC ?_ | refine CallP.e hC ?_); conv => whnf))
      · rename_i hq
        have hq : q = false := by simpa using hq
        exact RetG.drop rfl rfl rfl ⟨rfl, by rw [← i2, hq]; rfl, rfl⟩
      · rename_i hq
        have hq : q = true := by simpa using hq
        rw [hq] at i2
        exact ⟨x + 1, ⟨⟨by omega, by simpa using i2⟩, by omega⟩, Wk.slots rfl ⟨rfl, rfl⟩⟩
    · have hxe : x = l_.length := by omega
      subst hxe
      rw [List.drop_length] at i2
      conv => whnf
      repeat' (first
        | (refine And.intro W1 ?_; conv => whnf)
        | (refine brD (fun _ => ?_) (fun _ => ?_) <;> first | (exfalso; omega) | (conv => whnf))
        | (refine brB (fun _ => ?_) (fun _ => ?_) <;> conv => whnf))
      refine LoopG.s (fun x : Nat => x ≤ d.length ∧ plainPD (d.drop x) = R) 90 (fun x => [(1, .ptr 1 0 0), (5, .int .i64 x)]) (fun _ => [⟨0, true, .frame l⟩, ⟨0, true, .cells 26 [.int .i64 k, .int .i64 n, .int .i64 f, .str s, .imm 6 (obL l_), .imm 7 (obD d)]⟩]) (fun x => d.length - x) 0 ⟨by simp, by simpa [plainPL] using i2⟩ rfl ⟨rfl, rfl⟩ rfl ?_
      clear i2
      rintro x ⟨i1, i2⟩
      by_cases hx : x < d.length
      · have hg := obD_get hx
        have hC := ihd x hx
        have htk := plainPD_take hx
        have hcs : ∃ a c0 c1 c2 c3 c4 c5, obE d[x] = [a, c0, c1, c2, c3, c4, c5] ∧ obC d[x].2 = [c0, c1, c2, c3, c4, c5] := by
          generalize d[x] = e; obtain ⟨a, o⟩ := e; cases o; exact ⟨_, _, _, _, _, _, _, rfl, rfl⟩
        obtain ⟨c6, c0, c1, c2, c3, c4, c5, hc, hc2⟩ := hcs
        rw [hc] at hg
        rw [hc2] at hC
        rw [htk] at i2
        generalize plainP d[x].2 = q at *
        conv => whnf
        repeat' (first
          | (rw [hg]; conv => whnf)
          | (refine And.intro W1 ?_; conv => whnf)
          | (refine brD (fun _ => ?_) (fun _ => ?_) <;> first | (exfalso; omega) | (conv => whnf))
          | (refine brB (fun _ => ?_) (fun _ => ?_) <;> conv => whnf)
          | ((first | refine CallG.e hC ?_ | refine CallD.e hC ?_ | refine CallQ.e hC ?_ | refine CallP.e hC ?_); conv => whnf))
        · rename_i hq
          have hq : q = false := by simpa using hq
          exact RetG.drop rfl rfl rfl ⟨rfl, by rw [← i2, hq]; rfl, rfl⟩
        · rename_i hq
          have hq : q = true := by simpa using hq
          rw [hq] at i2
          exact ⟨x + 1, ⟨⟨by omega, by simpa using i2⟩, by omega⟩, Wk.slots rfl ⟨rfl, rfl⟩⟩
      · have hxe : x = d.length := by omega
        subst hxe
        rw [List.drop_length] at i2
        conv => whnf
        repeat' (first
          | (refine And.intro W1 ?_; conv => whnf)
          | (refine brD (fun _ => ?_) (fun _ => ?_) <;> first | (exfalso; omega) | (conv => whnf))
          | (refine brB (fun _ => ?_) (fun _ => ?_) <;> conv => whnf))
        exact RetG.drop rfl rfl rfl ⟨rfl, by rw [← i2]; rfl, rfl⟩

theorem theirs46 (ops : List OpL) (hl : ops.length < 1000000) : PCalls E 46 [.imm 2 (opLs ops)] (· = .imm 2 (opLs ops)) := by
  have hlL := opLs_len ops
  have hL : ∀ n0, hbLL n0 (opLs ops) = true := fun n0 => opLs_hb ops
  refine p46 hE (fun l => ?_) (by simp [hbL, hb, hL])
  conv => whnf
  repeat' (first
    | (refine And.intro W1 ?_; conv => whnf)
    | (refine brD (fun _ => ?_) (fun _ => ?_) <;> first | (exfalso; omega) | (conv => whnf))
    | (refine brB (fun _ => ?_) (fun _ => ?_) <;> conv => whnf))
  refine LoopG.w (fun x : Nat => x ≤ ops.length) 26 (fun x => [(0, .imm 2 (opLs ops)), (2, nilA), (3, .own 1 0 0 x 2), (4, .int .i64 x)]) (fun x => [⟨0, true, .frame l⟩, ⟨0, true, .cells 82 (cellsO (ops.take x))⟩]) (fun x => ops.length - x) 0 (by omega)
    (Wk.gc [some 0, none] rfl rfl rfl ⟨⟨_, _, rfl, rfl, .same _ rfl⟩, ⟨0, 82, rfl⟩, trivial⟩ ⟨⟨_, rfl, .same _ (by simp [hb, hL])⟩, ⟨_, rfl, .same _ rfl⟩, ⟨_, rfl, .nilOwn 1 0 2 82 rfl rfl⟩, ⟨_, rfl, .same _ rfl⟩, trivial⟩) ?_
  intro x h1
  by_cases hx : x < ops.length
  · have hg := opLs_at hx
    rw [opE_at] at hg
    have htk := cellsO_take hx
    have hA : ∀ n0, hbLL n0 (obL ops[x].2) = true := fun n0 => obL_hb _
    have hcl : 0 + x * 2 ≤ (cellsO (ops.take x)).length := by rw [cellsO_length, List.length_take]; omega
    have hcap : (x + 1) * 40 ≤ 70368744177664 := by omega
    conv => whnf
    repeat' (first
      | (rw [hg]; conv => whnf)
      | (refine And.intro W1 ?_; conv => whnf)
      | (refine brD (fun _ => ?_) (fun _ => ?_) <;> first | (exfalso; omega) | (conv => whnf))
      | (refine brB (fun _ => ?_) (fun _ => ?_) <;> conv => whnf)
      | (refine And.intro ⟨rfl, rfl, rfl, hcl, by decide, hcap⟩ ?_; conv => whnf))
    have hcell : BK.cells 82 (((cellsO (ops.take x)).drop 0).take (x * 2) ++ [[AV.str ops[x].1, .imm 6 (obL ops[x].2)]].flatten) = BK.cells 82 (cellsO (ops.take (x + 1))) := by
      rw [List.drop_zero, take_all (by rw [cellsO_length, List.length_take]; omega), htk]; rfl
    exact ⟨x + 1, ⟨by omega, by omega⟩, Wk.gc [some 0, some 1] rfl rfl rfl ⟨⟨_, _, rfl, rfl, .same _ rfl⟩, ⟨_, _, rfl, rfl, .eq hcell (by simp [bkFree, hbB, cellsO_hb])⟩, trivial⟩
      ⟨⟨_, rfl, .same _ (by simp [hb, hL])⟩, ⟨_, rfl, .same _ rfl⟩, ⟨_, rfl, .own 1 1 1 0 0 _ 2 _ _ rfl rfl rfl⟩, ⟨_, rfl, .same _ rfl⟩, trivial⟩⟩
  · obtain rfl : x = ops.length := by omega
    rw [List.take_length]
    conv => whnf
    repeat' (first
      | (refine And.intro W1 ?_; conv => whnf)
      | (refine brD (fun _ => ?_) (fun _ => ?_) <;> first | (exfalso; omega) | (conv => whnf))
      | (refine brB (fun _ => ?_) (fun _ => ?_) <;> conv => whnf))
    exact RetG.pub (pubOt ops rfl (show 1 ≤ 1 by decide)) rfl rfl ⟨by simp [hb, hL], rfl, rfl⟩


theorem same45 (ops : List OpL) (hl : ops.length < 1000000) (hc : ∀ p ∈ ops, p.2.length < 1000000 ∧ ∀ o ∈ p.2, countO o < big) : PCalls E 45 [.imm 2 (opLs ops), .imm 2 (opLs ops)] (· = .bool true) := by
  have hlL := opLs_len ops
  have hL : ∀ n0, hbLL n0 (opLs ops) = true := fun n0 => opLs_hb ops
  refine p45 hE (fun l => ?_) (by simp [hbL, hb, hL])
  conv => whnf
  repeat' (first
    | (refine And.intro W1 ?_; conv => whnf)
    | (refine brD (fun _ => ?_) (fun _ => ?_) <;> first | (exfalso; omega) | (conv => whnf))
    | (refine brB (fun _ => ?_) (fun _ => ?_) <;> conv => whnf))
  refine LoopG.s (fun x : Nat => x ≤ ops.length) 72 (fun x => [(0, .imm 2 (opLs ops)), (1, .imm 2 (opLs ops)), (5, .int .i64 x)]) (fun _ => frm l) (fun x => ops.length - x) 0 (by omega) rfl ⟨rfl, rfl, rfl⟩ rfl ?_
  intro x h1
  by_cases hx : x < ops.length
  · have hg := opLs_at hx
    rw [opE_at] at hg
    obtain ⟨hc1, hc2⟩ := hc ops[x] (List.getElem_mem hx)
    generalize ops[x] = op at *
    obtain ⟨nm, args⟩ := op
    simp only at hg hc1 hc2
    have hlA := obL_len args
    conv => whnf
    repeat' (first
      | (rw [hg]; conv => whnf)
      | (refine And.intro W1 ?_; conv => whnf)
      | (refine brD (fun _ => ?_) (fun _ => ?_) <;> first | (exfalso; omega) | (conv => whnf))
      | (refine brB (fun _ => ?_) (fun _ => ?_) <;> conv => whnf))
    all_goals first | (exfalso; rename_i h; exact h rfl) | skip
    refine LoopG.s (fun k : Nat => k ≤ args.length) 72 (fun k => [(0, .imm 2 (opLs ops)), (1, .imm 2 (opLs ops)), (5, .int .i64 x), (6, .int .i64 k)]) (fun _ => frm l) (fun k => args.length - k) 0 (by omega) rfl ⟨rfl, rfl, rfl, rfl⟩ rfl ?_
    intro k hk1
    by_cases hk : k < args.length
    · have hg2 := obL_at hk
      have hX := exact8 hE _ args[k] args[k] (Nat.lt_succ_self _) (hc2 _ (List.getElem_mem hk)) (hc2 _ (List.getElem_mem hk))
      rw [ex_refl _ args[k] (Nat.lt_succ_self _)] at hX
      have hcs : ∃ c0 c1 c2 c3 c4 c5, obC args[k] = [c0, c1, c2, c3, c4, c5] := by cases args[k]; exact ⟨_, _, _, _, _, _, rfl⟩
      obtain ⟨c0, c1, c2, c3, c4, c5, hcc⟩ := hcs
      rw [hcc] at hg2 hX
      conv => whnf
      repeat' (first
        | (rw [hg]; conv => whnf)
        | (rw [hg2]; conv => whnf)
        | (refine And.intro W1 ?_; conv => whnf)
        | (refine brD (fun _ => ?_) (fun _ => ?_) <;> first | (exfalso; omega) | (conv => whnf))
        | (refine brB (fun _ => ?_) (fun _ => ?_) <;> conv => whnf)
        | ((first | refine CallG.e hX ?_ | refine CallD.e hX ?_ | refine CallQ.e hX ?_ | refine CallP.e hX ?_); conv => whnf))
      exact ⟨k + 1, ⟨by omega, by omega⟩, Wk.slots rfl ⟨rfl, rfl, rfl, rfl⟩⟩
    · conv => whnf
      repeat' (first
        | (rw [hg]; conv => whnf)
        | (refine And.intro W1 ?_; conv => whnf)
        | (refine brD (fun _ => ?_) (fun _ => ?_) <;> first | (exfalso; omega) | (conv => whnf))
        | (refine brB (fun _ => ?_) (fun _ => ?_) <;> conv => whnf))
      exact ⟨x + 1, ⟨by omega, by omega⟩, Wk.slots rfl ⟨rfl, rfl, rfl⟩⟩
  · conv => whnf
    repeat' (first
      | (refine And.intro W1 ?_; conv => whnf)
      | (refine brD (fun _ => ?_) (fun _ => ?_) <;> first | (exfalso; omega) | (conv => whnf))
      | (refine brB (fun _ => ?_) (fun _ => ?_) <;> conv => whnf))
    exact RetG.q ⟨rfl, rfl, rfl⟩

omit hE in
def allP (ops : List OpL) : Bool := ops.all fun p => p.2.all plainP
omit hE in
theorem allP_at {l : List OpL} {x : Nat} (h : x < l.length) : allP (l.drop x) = (l[x].2.all plainP && allP (l.drop (x + 1))) := by
  unfold allP
  rw [List.drop_eq_getElem_cons h, List.all_cons]
omit hE in
theorem allQ_at {l : List Ob} {x : Nat} (h : x < l.length) : (l.drop x).all plainP = (plainP l[x] && (l.drop (x + 1)).all plainP) := by
  rw [List.drop_eq_getElem_cons h, List.all_cons]
omit hE in
theorem bulk_all {ops : List OpL} (h : bulkO (allO ops) ≤ 2000) : ops.length ≤ 2000 ∧ (ops.map fun p => 1 + p.1.length + bulkL p.2).sum ≤ 2000 ∧ ∀ p ∈ ops, p.1.length ≤ 2000 ∧ bulkL p.2 ≤ 2000 := by
  have e : ∀ l : List OpL, bulkL (l.map opO) = (l.map fun p => 1 + p.1.length + bulkL p.2).sum := by
    intro l
    induction l with
    | nil => rfl
    | cons p r ih => simp only [List.map_cons, bulkL, List.sum_cons, ih, opO, bulkO, bulkD]; omega
  unfold allO bulkO at h
  rw [e] at h
  simp only [List.length_nil, bulkD] at h
  have hs : (ops.map fun p => 1 + p.1.length + bulkL p.2).sum ≤ 2000 := by omega
  refine ⟨?_, hs, ?_⟩
  · have : ∀ l : List OpL, l.length ≤ (l.map fun p => 1 + p.1.length + bulkL p.2).sum := by
      intro l
      induction l with
      | nil => simp
      | cons p r ih => simp only [List.map_cons, List.sum_cons, List.length_cons]; omega
    exact Nat.le_trans (this ops) hs
  · have : ∀ l : List OpL, ∀ p ∈ l, 1 + p.1.length + bulkL p.2 ≤ (l.map fun p => 1 + p.1.length + bulkL p.2).sum := by
      intro l
      induction l with
      | nil => intro p hp; simp at hp
      | cons q r ih =>
        intro p hp
        simp only [List.map_cons, List.sum_cons]
        rcases List.mem_cons.mp hp with rfl | hp
        · omega
        · have := ih p hp; omega
    intro p hp
    have := this ops p hp
    omega
omit hE in
theorem res_len {o : Ob} (hw : wfO o) (hb : bulkO o ≤ 100000) : (resT o).length + 1 ≤ 60 * bulkO o := by
  unfold resT
  by_cases h : errF o = 0
  · rw [if_pos h]
    have := txt_len _ o (Nat.lt_succ_self _) (ok_few hw hb h).1 hw
    omega
  · rw [if_neg h]
    have : 1 ≤ bulkO o := by cases o; simp [bulkO]; omega
    simp; omega
omit hE in
theorem argsT_len : ∀ {l : List Ob}, wfOs l → bulkL l ≤ 100000 → (argsT l).length ≤ 60 * bulkL l
  | [], _, _ => by simp [argsT]
  | o :: r, hw, hb => by
    simp only [wfOs, bulkL] at hw hb
    have h1 := res_len hw.1 (by omega)
    have h2 := argsT_len hw.2 (by omega)
    have e : argsT (o :: r) = (resT o ++ [32]) ++ argsT r := by simp [argsT]
    rw [e]
    simp only [List.length_append, List.length_cons, List.length_nil, bulkL]
    omega
omit hE in
theorem writeT_len : ∀ {ops : List OpL}, (∀ p ∈ ops, wfOp p ∧ bulkL p.2 ≤ 2000) → (writeT ops).length ≤ 60 * (ops.map fun p => 1 + p.1.length + bulkL p.2).sum
  | [], _ => by simp [writeT]
  | p :: r, h => by
    obtain ⟨h1, h2⟩ := h p (List.mem_cons_self ..)
    have h3 := argsT_len h1.2.2 (by omega)
    have h4 := writeT_len fun x hx => h x (List.mem_cons_of_mem _ hx)
    have e : writeT (p :: r) = (argsT p.2 ++ (p.1 ++ [10])) ++ writeT r := by simp [writeT, opT]
    rw [e]
    simp only [List.length_append, List.length_cons, List.length_nil, List.map_cons, List.sum_cons]
    omega
end Ink.D
