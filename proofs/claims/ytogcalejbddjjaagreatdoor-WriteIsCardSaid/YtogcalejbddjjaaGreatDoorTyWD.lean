import Derived.Test.YtogcalejbddjjaaGreatDoorTyWC
import Derived.Test.YtogcalejbddjjaaGreatDoorTyN2
set_option linter.all false
namespace Ink.D
open Go Go.Proofs
set_option maxRecDepth 100000
variable {E : Env} (hE : E.P = Tryz.prog)

theorem saneFs_step {l : List Ob} {x : Nat} {deep : Int} (h : x < l.length) : saneFs (l.drop x) deep = if saneF l[x] deep ≠ 0 then saneF l[x] deep else saneFs (l.drop (x + 1)) deep := by
  rw [List.drop_eq_getElem_cons h, saneFs]
theorem saneFd_step {d : List (List UInt8 × Ob)} {x : Nat} {deep : Int} (h : x < d.length) : saneFd (d.drop x) deep = if saneF d[x].2 deep ≠ 0 then saneF d[x].2 deep else saneFd (d.drop (x + 1)) deep := by
  rw [List.drop_eq_getElem_cons h, saneFd]
  generalize d[x] = e
  obtain ⟨a, o⟩ := e
  simp only [saneFe]
  rfl
theorem saneF_own (k n f : Int) (s : List UInt8) (l : List Ob) (d : List (List UInt8 × Ob)) (deep : Int) : saneF (.mk k n f s l d) deep =
    if ownL k n f l.length d deep ≠ 0 then ownL k n f l.length d deep else if k = 5 then saneFs l (deep + 1) else if k = 6 ∨ k = 8 then saneFd d (deep + 1) else 0 := by
  rw [saneF]
  unfold ownL
  by_cases h : shapeF k n f d deep ≠ 0
  · rw [if_pos h, if_pos h, if_pos h]
  · rw [if_neg h, if_neg h]
theorem ownL_deep {k n f : Int} {nl : Nat} {d : List (List UInt8 × Ob)} {deep : Int} (h : ownL k n f nl d deep = 0) (hk : k = 5 ∨ k = 6 ∨ k = 8) : deep < 64 := by
  rcases hk with rfl | rfl | rfl
  · rw [own_5] at h; (repeat' split at h) <;> omega
  · rw [own_6] at h; (repeat' split at h) <;> omega
  · rw [own_8] at h; (repeat' split at h) <;> omega

include hE
theorem own114 (k n f : Int) (s : List UInt8) (l_ : List Ob) (d : List (List UInt8 × Ob)) (deep : Int) (hl : l_.length < big) (hd : d.length < big) :
    PCalls E 114 [.agg (obC (.mk k n f s l_ d)), .int .i64 deep] (· = .int .i64 (ownL k n f l_.length d deep)) := by
  by_cases h6 : k = 6
  · subst h6; exact ownD6 hE hl hd
  · by_cases h8 : k = 8
    · subst h8; exact ownD8 hE hl hd
    · exact ownA hE hl hd h6 h8

set_option maxHeartbeats 4000000 in
theorem saneL5 (n f : Int) (s : List UInt8) (l_ : List Ob) (d : List (List UInt8 × Ob)) (deep : Int) (hd0 : 0 ≤ deep) (hl : l_.length < big) (hd : d.length < big)
    (ih : ownL 5 n f l_.length d deep = 0 → ∀ o ∈ l_, PCalls E 63 [.agg (obC o), .int .i64 (deep + 1)] (· = .int .i64 (saneF o (deep + 1)))) :
    PCalls E 63 [.agg (obC (.mk 5 n f s l_ d)), .int .i64 deep] (· = .int .i64 (saneF (.mk 5 n f s l_ d) deep)) := by
  have hO := own114 hE 5 n f s l_ d deep hl hd
  have hdp := ownL_deep (k := 5) (n := n) (f := f) (nl := l_.length) (d := d) (deep := deep)
  rw [saneF_own, if_pos rfl]
  have hll := obL_len l_
  have hdl := obD_length d
  have hL : ∀ n0, hbLL n0 (obL l_) = true := fun n0 => obL_hb l_
  have hD : ∀ n0, hbLL n0 (obD d) = true := fun n0 => obD_hb d
  unfold big at hl hd
  refine p63 hE (fun l => ?_) (by simp [hbL, hb, obC_hb])
  unfold obC at hO ⊢
  generalize ownL 5 n f l_.length d deep = e0 at *
  by_cases he : e0 = 0
  · subst he
    have hdp := hdp rfl (.inl rfl)
    have ih := ih rfl
    rw [if_neg (by simp)]
    generalize hR : saneFs l_ (deep + 1) = R
    conv => whnf
    repeat' (first
      | (refine And.intro W1 ?_; conv => whnf)
      | (refine brD (fun _ => ?_) (fun _ => ?_) <;> first | (exfalso; omega) | (conv => whnf))
      | (refine brB (fun _ => ?_) (fun _ => ?_) <;> conv => whnf)
      | ((first | refine CallG.e hO ?_ | refine CallD.e hO ?_ | refine CallQ.e hO ?_ | refine CallP.e hO ?_); conv => whnf))
    all_goals first | contradiction | skip
    refine LoopG.s (fun x : Nat => x ≤ l_.length ∧ saneFs (l_.drop x) (deep + 1) = R) 62 (fun x => [(1, .int .i64 deep), (2, .ptr 1 0 0), (4, .int .i64 0), (6, .int .i64 x)]) (fun _ => [⟨0, true, .frame l⟩, ⟨0, true, .cells 26 [.int .i64 5, .int .i64 n, .int .i64 f, .str s, .imm 6 (obL l_), .imm 7 (obD d)]⟩]) (fun x => l_.length - x) 0 ⟨by omega, hR⟩ rfl ⟨rfl, rfl, rfl, rfl⟩ rfl ?_
    clear hR
    rintro x ⟨h1, h2⟩
    by_cases hx : x < l_.length
    · have hg := obL_at hx
      have hC := ih l_[x] (List.getElem_mem hx)
      rw [saneFs_step hx] at h2
      generalize saneF l_[x] (deep + 1) = e at *
      have hcl : ∃ c0 c1 c2 c3 c4 c5, obC l_[x] = [c0, c1, c2, c3, c4, c5] := by cases l_[x]; exact ⟨_, _, _, _, _, _, rfl⟩
      obtain ⟨c0, c1, c2, c3, c4, c5, hc⟩ := hcl
      rw [hc] at hg hC
      conv => whnf
      repeat' (first
        | (rw [hg]; conv => whnf)
        | (refine And.intro W1 ?_; conv => whnf)
        | (refine brD (fun _ => ?_) (fun _ => ?_) <;> first | (exfalso; omega) | (conv => whnf))
        | (refine brB (fun _ => ?_) (fun _ => ?_) <;> conv => whnf)
        | ((first | refine CallG.e hC ?_ | refine CallD.e hC ?_ | refine CallQ.e hC ?_ | refine CallP.e hC ?_); conv => whnf))
      · rw [if_pos (by assumption)] at h2
        subst h2
        exact RetG.drop rfl rfl rfl ⟨rfl, rfl, rfl⟩
      · rw [if_neg (by assumption)] at h2
        exact ⟨x + 1, ⟨⟨by omega, h2⟩, by omega⟩, Wk.slots rfl ⟨rfl, rfl, rfl, rfl⟩⟩
    · have : x = l_.length := by omega
      subst this
      rw [List.drop_length] at h2
      have h2 : R = 0 := by rw [← h2]; rfl
      subst h2
      conv => whnf
      repeat' (first
        | (refine And.intro W1 ?_; conv => whnf)
        | (refine brD (fun _ => ?_) (fun _ => ?_) <;> first | (exfalso; omega) | (conv => whnf))
        | (refine brB (fun _ => ?_) (fun _ => ?_) <;> conv => whnf))
      all_goals first | contradiction | exact RetG.drop rfl rfl rfl ⟨rfl, rfl, rfl⟩
  · rw [if_pos he]
    conv => whnf
    repeat' (first
      | (refine And.intro W1 ?_; conv => whnf)
      | (refine brD (fun _ => ?_) (fun _ => ?_) <;> first | (exfalso; omega) | (conv => whnf))
      | (refine brB (fun _ => ?_) (fun _ => ?_) <;> conv => whnf)
      | ((first | refine CallG.e hO ?_ | refine CallD.e hO ?_ | refine CallQ.e hO ?_ | refine CallP.e hO ?_); conv => whnf))
    all_goals first | contradiction | exact RetG.drop rfl rfl rfl ⟨rfl, rfl, rfl⟩

set_option maxHeartbeats 4000000 in
theorem saneD6 (n f : Int) (s : List UInt8) (l_ : List Ob) (d : List (List UInt8 × Ob)) (deep : Int) (hd0 : 0 ≤ deep) (hl : l_.length < big) (hd : d.length < big)
    (ih : ownL 6 n f l_.length d deep = 0 → ∀ e ∈ d, PCalls E 63 [.agg (obC e.2), .int .i64 (deep + 1)] (· = .int .i64 (saneF e.2 (deep + 1)))) :
    PCalls E 63 [.agg (obC (.mk 6 n f s l_ d)), .int .i64 deep] (· = .int .i64 (saneF (.mk 6 n f s l_ d) deep)) := by
  have hO := own114 hE 6 n f s l_ d deep hl hd
  have hdp := ownL_deep (k := 6) (n := n) (f := f) (nl := l_.length) (d := d) (deep := deep)
  rw [saneF_own, if_neg (show ¬ (6 : Int) = 5 by decide), if_pos (show (6 : Int) = 6 ∨ (6 : Int) = 8 by decide)]
  have hll := obL_len l_
  have hdl := obD_length d
  have hL : ∀ n0, hbLL n0 (obL l_) = true := fun n0 => obL_hb l_
  have hD : ∀ n0, hbLL n0 (obD d) = true := fun n0 => obD_hb d
  unfold big at hl hd
  refine p63 hE (fun l => ?_) (by simp [hbL, hb, obC_hb])
  unfold obC at hO ⊢
  generalize ownL 6 n f l_.length d deep = e0 at *
  by_cases he : e0 = 0
  · subst he
    have hdp := hdp rfl (by decide)
    have ih := ih rfl
    rw [if_neg (by simp)]
    generalize hR : saneFd d (deep + 1) = R
    conv => whnf
    repeat' (first
      | (refine And.intro W1 ?_; conv => whnf)
      | (refine brD (fun _ => ?_) (fun _ => ?_) <;> first | (exfalso; omega) | (conv => whnf))
      | (refine brB (fun _ => ?_) (fun _ => ?_) <;> conv => whnf)
      | ((first | refine CallG.e hO ?_ | refine CallD.e hO ?_ | refine CallQ.e hO ?_ | refine CallP.e hO ?_); conv => whnf))
    all_goals first | contradiction | skip
    refine LoopG.s (fun x : Nat => x ≤ d.length ∧ saneFd (d.drop x) (deep + 1) = R) 62 (fun x => [(1, .int .i64 deep), (2, .ptr 1 0 0), (4, .int .i64 0), (7, .int .i64 x)]) (fun _ => [⟨0, true, .frame l⟩, ⟨0, true, .cells 26 [.int .i64 6, .int .i64 n, .int .i64 f, .str s, .imm 6 (obL l_), .imm 7 (obD d)]⟩]) (fun x => d.length - x) 0 ⟨by omega, hR⟩ rfl ⟨rfl, rfl, rfl, rfl⟩ rfl ?_
    clear hR
    rintro x ⟨h1, h2⟩
    by_cases hx : x < d.length
    · have hg := obD_get hx
      have hC := ih d[x] (List.getElem_mem hx)
      rw [saneFd_step hx] at h2
      generalize saneF d[x].2 (deep + 1) = e at *
      generalize d[x] = en at *
      obtain ⟨ek, ⟨k1, n1, f1, s1, l1, d1⟩⟩ := en
      unfold obE obC at hg
      unfold obC at hC
      conv => whnf
      repeat' (first
        | (rw [hg]; conv => whnf)
        | (refine And.intro W1 ?_; conv => whnf)
        | (refine brD (fun _ => ?_) (fun _ => ?_) <;> first | (exfalso; omega) | (conv => whnf))
        | (refine brB (fun _ => ?_) (fun _ => ?_) <;> conv => whnf)
        | ((first | refine CallG.e hC ?_ | refine CallD.e hC ?_ | refine CallQ.e hC ?_ | refine CallP.e hC ?_); conv => whnf))
      · rw [if_pos (by assumption)] at h2
        subst h2
        exact RetG.drop rfl rfl rfl ⟨rfl, rfl, rfl⟩
      · rw [if_neg (by assumption)] at h2
        exact ⟨x + 1, ⟨⟨by omega, h2⟩, by omega⟩, Wk.slots rfl ⟨rfl, rfl, rfl, rfl⟩⟩
    · have : x = d.length := by omega
      subst this
      rw [List.drop_length] at h2
      have h2 : R = 0 := by rw [← h2]; rfl
      subst h2
      conv => whnf
      repeat' (first
        | (refine And.intro W1 ?_; conv => whnf)
        | (refine brD (fun _ => ?_) (fun _ => ?_) <;> first | (exfalso; omega) | (conv => whnf))
        | (refine brB (fun _ => ?_) (fun _ => ?_) <;> conv => whnf))
      all_goals first | contradiction | exact RetG.drop rfl rfl rfl ⟨rfl, rfl, rfl⟩
  · rw [if_pos he]
    conv => whnf
    repeat' (first
      | (refine And.intro W1 ?_; conv => whnf)
      | (refine brD (fun _ => ?_) (fun _ => ?_) <;> first | (exfalso; omega) | (conv => whnf))
      | (refine brB (fun _ => ?_) (fun _ => ?_) <;> conv => whnf)
      | ((first | refine CallG.e hO ?_ | refine CallD.e hO ?_ | refine CallQ.e hO ?_ | refine CallP.e hO ?_); conv => whnf))
    all_goals first | contradiction | exact RetG.drop rfl rfl rfl ⟨rfl, rfl, rfl⟩

set_option maxHeartbeats 4000000 in
theorem saneD8 (n f : Int) (s : List UInt8) (l_ : List Ob) (d : List (List UInt8 × Ob)) (deep : Int) (hd0 : 0 ≤ deep) (hl : l_.length < big) (hd : d.length < big)
    (ih : ownL 8 n f l_.length d deep = 0 → ∀ e ∈ d, PCalls E 63 [.agg (obC e.2), .int .i64 (deep + 1)] (· = .int .i64 (saneF e.2 (deep + 1)))) :
    PCalls E 63 [.agg (obC (.mk 8 n f s l_ d)), .int .i64 deep] (· = .int .i64 (saneF (.mk 8 n f s l_ d) deep)) := by
  have hO := own114 hE 8 n f s l_ d deep hl hd
  have hdp := ownL_deep (k := 8) (n := n) (f := f) (nl := l_.length) (d := d) (deep := deep)
  rw [saneF_own, if_neg (show ¬ (8 : Int) = 5 by decide), if_pos (show (8 : Int) = 6 ∨ (8 : Int) = 8 by decide)]
  have hll := obL_len l_
  have hdl := obD_length d
  have hL : ∀ n0, hbLL n0 (obL l_) = true := fun n0 => obL_hb l_
  have hD : ∀ n0, hbLL n0 (obD d) = true := fun n0 => obD_hb d
  unfold big at hl hd
  refine p63 hE (fun l => ?_) (by simp [hbL, hb, obC_hb])
  unfold obC at hO ⊢
  generalize ownL 8 n f l_.length d deep = e0 at *
  by_cases he : e0 = 0
  · subst he
    have hdp := hdp rfl (by decide)
    have ih := ih rfl
    rw [if_neg (by simp)]
    generalize hR : saneFd d (deep + 1) = R
    conv => whnf
    repeat' (first
      | (refine And.intro W1 ?_; conv => whnf)
      | (refine brD (fun _ => ?_) (fun _ => ?_) <;> first | (exfalso; omega) | (conv => whnf))
      | (refine brB (fun _ => ?_) (fun _ => ?_) <;> conv => whnf)
      | ((first | refine CallG.e hO ?_ | refine CallD.e hO ?_ | refine CallQ.e hO ?_ | refine CallP.e hO ?_); conv => whnf))
    all_goals first | contradiction | skip
    refine LoopG.s (fun x : Nat => x ≤ d.length ∧ saneFd (d.drop x) (deep + 1) = R) 62 (fun x => [(1, .int .i64 deep), (2, .ptr 1 0 0), (4, .int .i64 0), (7, .int .i64 x)]) (fun _ => [⟨0, true, .frame l⟩, ⟨0, true, .cells 26 [.int .i64 8, .int .i64 n, .int .i64 f, .str s, .imm 6 (obL l_), .imm 7 (obD d)]⟩]) (fun x => d.length - x) 0 ⟨by omega, hR⟩ rfl ⟨rfl, rfl, rfl, rfl⟩ rfl ?_
    clear hR
    rintro x ⟨h1, h2⟩
    by_cases hx : x < d.length
    · have hg := obD_get hx
      have hC := ih d[x] (List.getElem_mem hx)
      rw [saneFd_step hx] at h2
      generalize saneF d[x].2 (deep + 1) = e at *
      generalize d[x] = en at *
      obtain ⟨ek, ⟨k1, n1, f1, s1, l1, d1⟩⟩ := en
      unfold obE obC at hg
      unfold obC at hC
      conv => whnf
      repeat' (first
        | (rw [hg]; conv => whnf)
        | (refine And.intro W1 ?_; conv => whnf)
        | (refine brD (fun _ => ?_) (fun _ => ?_) <;> first | (exfalso; omega) | (conv => whnf))
        | (refine brB (fun _ => ?_) (fun _ => ?_) <;> conv => whnf)
        | ((first | refine CallG.e hC ?_ | refine CallD.e hC ?_ | refine CallQ.e hC ?_ | refine CallP.e hC ?_); conv => whnf))
      · rw [if_pos (by assumption)] at h2
        subst h2
        exact RetG.drop rfl rfl rfl ⟨rfl, rfl, rfl⟩
      · rw [if_neg (by assumption)] at h2
        exact ⟨x + 1, ⟨⟨by omega, h2⟩, by omega⟩, Wk.slots rfl ⟨rfl, rfl, rfl, rfl⟩⟩
    · have : x = d.length := by omega
      subst this
      rw [List.drop_length] at h2
      have h2 : R = 0 := by rw [← h2]; rfl
      subst h2
      conv => whnf
      repeat' (first
        | (refine And.intro W1 ?_; conv => whnf)
        | (refine brD (fun _ => ?_) (fun _ => ?_) <;> first | (exfalso; omega) | (conv => whnf))
        | (refine brB (fun _ => ?_) (fun _ => ?_) <;> conv => whnf))
      all_goals first | contradiction | exact RetG.drop rfl rfl rfl ⟨rfl, rfl, rfl⟩
  · rw [if_pos he]
    conv => whnf
    repeat' (first
      | (refine And.intro W1 ?_; conv => whnf)
      | (refine brD (fun _ => ?_) (fun _ => ?_) <;> first | (exfalso; omega) | (conv => whnf))
      | (refine brB (fun _ => ?_) (fun _ => ?_) <;> conv => whnf)
      | ((first | refine CallG.e hO ?_ | refine CallD.e hO ?_ | refine CallQ.e hO ?_ | refine CallP.e hO ?_); conv => whnf))
    all_goals first | contradiction | exact RetG.drop rfl rfl rfl ⟨rfl, rfl, rfl⟩

theorem saneO (k n f : Int) (s : List UInt8) (l_ : List Ob) (d : List (List UInt8 × Ob)) (deep : Int) (hl : l_.length < big) (hd : d.length < big) (h5 : k ≠ 5) (h6 : k ≠ 6) (h8 : k ≠ 8) :
    PCalls E 63 [.agg (obC (.mk k n f s l_ d)), .int .i64 deep] (· = .int .i64 (saneF (.mk k n f s l_ d) deep)) := by
  have hO := own114 hE k n f s l_ d deep hl hd
  rw [saneF_own, if_neg h5, if_neg (show ¬ (k = 6 ∨ k = 8) by omega)]
  have hL : ∀ n0, hbLL n0 (obL l_) = true := fun n0 => obL_hb l_
  have hD : ∀ n0, hbLL n0 (obD d) = true := fun n0 => obD_hb d
  refine p63 hE (fun l => ?_) (by simp [hbL, hb, obC_hb])
  unfold obC at hO ⊢
  generalize ownL k n f l_.length d deep = e0 at *
  by_cases he : e0 = 0
  · subst he
    rw [if_neg (by simp)]
    conv => whnf
    repeat' (first
      | (refine And.intro W1 ?_; conv => whnf)
      | (refine brD (fun _ => ?_) (fun _ => ?_) <;> first | (exfalso; omega) | (conv => whnf))
      | (refine brB (fun _ => ?_) (fun _ => ?_) <;> conv => whnf)
      | ((first | refine CallG.e hO ?_ | refine CallD.e hO ?_ | refine CallQ.e hO ?_ | refine CallP.e hO ?_); conv => whnf))
    all_goals first | contradiction | exact RetG.drop rfl rfl rfl ⟨rfl, rfl, rfl⟩
  · rw [if_pos he]
    conv => whnf
    repeat' (first
      | (refine And.intro W1 ?_; conv => whnf)
      | (refine brD (fun _ => ?_) (fun _ => ?_) <;> first | (exfalso; omega) | (conv => whnf))
      | (refine brB (fun _ => ?_) (fun _ => ?_) <;> conv => whnf)
      | ((first | refine CallG.e hO ?_ | refine CallD.e hO ?_ | refine CallQ.e hO ?_ | refine CallP.e hO ?_); conv => whnf))
    all_goals first | contradiction | exact RetG.drop rfl rfl rfl ⟨rfl, rfl, rfl⟩

theorem sane63 : ∀ (m : Nat) (o : Ob), sizeOf o < m → countO o < big → ∀ deep, 0 ≤ deep → PCalls E 63 [.agg (obC o), .int .i64 deep] (· = .int .i64 (saneF o deep))
  | 0, _, h, _, _, _ => absurd h (Nat.not_lt_zero _)
  | m + 1, .mk k n f s l_ d, hm, hc, deep, hd0 => by
    have hll := countL_len l_
    have hdl := countD_len d
    have hc' : countL l_ + countD d + 1 < big := by simp only [countO] at hc; omega
    have hsz : sizeOf l_ < m ∧ sizeOf d < m := by
      simp only [Ob.mk.sizeOf_spec] at hm
      omega
    have ihL : ∀ o ∈ l_, PCalls E 63 [.agg (obC o), .int .i64 (deep + 1)] (· = .int .i64 (saneF o (deep + 1))) := fun o ho => by
      have h1 := List.sizeOf_lt_of_mem ho
      have h2 := countO_mem ho
      exact sane63 m o (by omega) (by omega) _ (by omega)
    have ihD : ∀ e ∈ d, PCalls E 63 [.agg (obC e.2), .int .i64 (deep + 1)] (· = .int .i64 (saneF e.2 (deep + 1))) := fun e he => by
      have h1 := List.sizeOf_lt_of_mem he
      have h2 := countD_mem he
      have h3 : sizeOf e.2 < sizeOf e := by obtain ⟨a, o⟩ := e; simp; omega
      exact sane63 m e.2 (by omega) (by omega) _ (by omega)
    by_cases h5 : k = 5
    · subst h5; exact saneL5 hE n f s l_ d deep hd0 (by omega) (by omega) (fun _ => ihL)
    by_cases h6 : k = 6
    · subst h6; exact saneD6 hE n f s l_ d deep hd0 (by omega) (by omega) (fun _ => ihD)
    by_cases h8 : k = 8
    · subst h8; exact saneD8 hE n f s l_ d deep hd0 (by omega) (by omega) (fun _ => ihD)
    exact saneO hE k n f s l_ d deep (by omega) (by omega) h5 h6 h8

theorem sane24 (o : Ob) (hc : countO o < big) : PCalls E 24 [.agg (obC o)] (· = .int .i64 (saneF o 0)) := by
  have h := sane63 hE _ o (Nat.lt_succ_self _) hc 0 (by decide)
  refine p24 hE (fun l => ?_) (by simp [hbL, hb, obC_hb])
  cases o with
  | mk k n f s l_ d =>
    unfold obC at h ⊢
    conv => whnf
    repeat' (first
      | (refine And.intro W1 ?_; conv => whnf)
      | (refine brD (fun _ => ?_) (fun _ => ?_) <;> first | (exfalso; omega) | (conv => whnf))
      | (refine brB (fun _ => ?_) (fun _ => ?_) <;> conv => whnf)
      | ((first | refine CallG.e h ?_ | refine CallD.e h ?_ | refine CallQ.e h ?_ | refine CallP.e h ?_); conv => whnf))
    exact RetG.drop rfl rfl rfl ⟨rfl, rfl, rfl⟩
end Ink.D
