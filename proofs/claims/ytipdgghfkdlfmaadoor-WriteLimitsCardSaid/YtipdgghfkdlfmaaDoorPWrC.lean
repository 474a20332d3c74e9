import Derived.Test.YtipdgghfkdlfmaaDoorPWrB
set_option linter.all false
namespace Ink.D
open Go Go.Proofs
set_option maxRecDepth 100000
set_option linter.unusedSimpArgs false
set_option linter.unusedVariables false
variable {E : Env} (hE : E.P = Tryd.prog)

/-- arrays in one another -/
def obN : Nat → Ob
  | 0 => .mk 1 1 0 [] [] []
  | i + 1 => .mk 5 0 0 [] [obN i] []

def rawN : Nat → List AV
  | 0 => [.int .i64 1, .int .i64 1, .int .i64 0, .str [], nilS, nilS]
  | i + 1 => [.int .i64 5, .int .i64 0, .int .i64 0, .str [], .imm 6 [rawN i], nilS]

theorem rawN_pub {H : List Blk} (n : Nat) : ∀ i, PubL H n (rawN i) (obC (obN i))
  | 0 => ⟨.same _ rfl, .same _ rfl, .same _ rfl, .same _ rfl, .nil _ _, .nil _ _, trivial⟩
  | i + 1 => by
    have ih := rawN_pub (H := H) n i
    have e : obC (obN (i + 1)) = [.int .i64 5, .int .i64 0, .int .i64 0, .str [], .imm 6 [obC (obN i)], .imm 7 []] := by simp [obN, obC, obL, obD]
    rw [e]
    refine ⟨.same _ rfl, .same _ rfl, .same _ rfl, .same _ rfl, Pub.immL rfl (by simpa using ih) (by cases obN i; simp [obC]) (by simpa using obC_sc _), .nil _ _, trivial⟩

theorem rawN_6 (i : Nat) : ∃ c0 c1 c2 c3 c4 c5, rawN i = [c0, c1, c2, c3, c4, c5] := by
  cases i <;> exact ⟨_, _, _, _, _, _, rfl⟩

theorem rawN_hb {n : Nat} : ∀ i, hbL n (rawN i) = true
  | 0 => rfl
  | i + 1 => by simp [rawN, hbL, hb, hbLL, rawN_hb i]

theorem obN_noD : ∀ i, noD (obN i) = true
  | 0 => by decide
  | i + 1 => by simp [obN, noD, noDs, obN_noD i, big]

theorem obN_ok : ∀ i, okW (obN i) = true
  | 0 => by decide
  | i + 1 => by simp [obN, okW, okWs, okWd, obN_ok i, big]

theorem obN_sane : ∀ (i : Nat) (deep : Int), 0 ≤ deep → deep ≤ 64 → saneL (obN i) deep = if (i : Int) + deep ≤ 64 then 0 else 5
  | 0, deep, h0, h1 => by
    rw [if_pos (by omega)]
    have e1 : shapeL 1 1 0 = 0 := by decide +kernel
    have e2 : sizeL 1 1 0 0 0 deep = 0 := by simp [sizeL]
    simp [obN, saneL, e1, e2]
  | i + 1, deep, h0, h1 => by
    have e1 : shapeL 5 0 0 = 0 := by decide
    have e2 : sizeL 5 0 0 1 0 deep = if 64 ≤ deep then 5 else 0 := by simp [sizeL]
    by_cases h : 64 ≤ deep
    · rw [if_neg (by omega)]
      simp [obN, saneL, e1, e2, h]
    · have ih := obN_sane i (deep + 1) (by omega) (by omega)
      have e3 : saneL (obN (i + 1)) deep = saneL (obN i) (deep + 1) := by
        simp only [obN, saneL, e1, List.length_cons, List.length_nil, e2, if_neg h, saneLs]
        simp
        exact fun h => h.symm
      rw [e3, ih]
      by_cases h2 : (i : Int) + (deep + 1) ≤ 64
      · rw [if_pos h2, if_pos (by omega)]
      · rw [if_neg h2, if_neg (by omega)]

theorem obN_txt : ∀ i : Nat, (txt (obN i)).length = 2 * i + 4
  | 0 => by decide
  | i + 1 => by
    have := obN_txt i
    simp [obN, txt, txtL, joinT, this]; omega

theorem and_low (n : Int) (m : Nat) (hm : m < 4096) : 0 ≤ bits .and .i64 n m ∧ bits .and .i64 n m ≤ m := by
  have h : ((BitVec.ofInt 64 n) &&& (BitVec.ofInt 64 (m : Int))).toNat ≤ m := by
    rw [BitVec.toNat_and]
    refine Nat.le_trans Nat.and_le_right ?_
    simp; omega
  have e : bits .and .i64 n m = IntKind.wrap .i64 (((BitVec.ofInt 64 n) &&& (BitVec.ofInt 64 (m : Int))).toNat : Int) := rfl
  rw [e]
  generalize ((BitVec.ofInt 64 n) &&& (BitVec.ofInt 64 (m : Int))).toNat = z at *
  have : IntKind.wrap .i64 (z : Int) = z := by
    exact wrap_i64 ⟨by omega, by omega⟩
  rw [this]; omega

include hE
theorem objectK (hT : TabE E) (i : Nat) (hi : i ≤ 127) : PCalls E 38 [.agg (rawN i)] (· = if i ≤ 64 then .tup [.str (txt (obN i)), .int .i64 0] else .tup [.str [], .int .i64 5]) := by
  have hs := obN_sane i 0 (by omega) (by omega)
  have h := object hE hT (obN i) (obN_noD i) (fun _ => ⟨obN_ok i, by rw [obN_txt]; omega⟩)
  have h2 := h.pub (args' := [.agg (rawN i)]) fun n => ⟨Pub.aggL (rawN_pub n i) (obC_sc _), trivial⟩
  have e : objAV (obN i) = if i ≤ 64 then .tup [.str (txt (obN i)), .int .i64 0] else .tup [.str [], .int .i64 5] := by
    unfold objAV
    rw [hs]
    by_cases h : i ≤ 64
    · rw [if_pos (show (i : Int) + 0 ≤ 64 by omega), if_pos rfl, if_pos h]
    · rw [if_neg (show ¬ (i : Int) + 0 ≤ 64 by omega), if_neg (by decide), if_neg h]
  rwa [e] at h2

omit hE in
abbrev obM (j : Nat) : Ob := .mk 5 0 0 [] (List.replicate j ob0) []
omit hE in
abbrev raw0 : List AV := [.int .i64 0, .int .i64 0, .int .i64 0, .str [], nilS, nilS]

omit hE in
theorem obM_sanes : ∀ j, saneLs (List.replicate j ob0) 1 = 0
  | 0 => rfl
  | j + 1 => by
    rw [List.replicate_succ, saneLs, if_neg (by decide +kernel)]
    exact obM_sanes j

omit hE in
theorem obM_sane (j : Nat) : saneL (obM j) 0 = if j ≤ 1024 then 0 else 6 := by
  have e1 : shapeL 5 0 0 = 0 := by decide
  have e2 : sizeL 5 0 0 j 0 0 = if j ≤ 1024 then 0 else 6 := by
    by_cases h : j ≤ 1024
    · simp [sizeL, h, Nat.not_lt.mpr h]
    · simp [sizeL, h, Nat.not_le.mp h]
  simp only [obM, saneL, e1, List.length_replicate, List.length_nil, e2]
  by_cases h : j ≤ 1024
  · simp [h, obM_sanes]
  · simp [h]

omit hE in
theorem obM_noDs : ∀ j, noDs (List.replicate j ob0) = true
  | 0 => rfl
  | j + 1 => by rw [List.replicate_succ, noDs, obM_noDs j]; decide
omit hE in
theorem obM_okWs : ∀ j, okWs (List.replicate j ob0) = true
  | 0 => rfl
  | j + 1 => by rw [List.replicate_succ, okWs, obM_okWs j]; decide

omit hE in
theorem obM_txt (j : Nat) : (txt (obM j)).length = if j = 0 then 2 else 5 * j + 1 := by
  have e : txt (obM j) = [91] ++ joinT (List.replicate j [110, 117, 108, 108]) ++ [93] := by
    simp only [obM, txt, txtL_map, List.map_replicate]
    rfl
  rw [e]
  cases j with
  | zero => rfl
  | succ j =>
    rw [List.replicate_succ, joinT, if_neg (by omega)]
    simp
    omega

theorem objectM (hT : TabE E) (j : Nat) (hj : j < 4096) : PCalls E 38 [.agg (obC (obM j))] (· = if j ≤ 1024 then .tup [.str (txt (obM j)), .int .i64 0] else .tup [.str [], .int .i64 6]) := by
  have hs := obM_sane j
  have h := object hE hT (obM j) (by simp [noD, obM_noDs, big]; omega) (fun _ => ⟨by simp [okW, obM_okWs, okWd, big]; omega, by rw [obM_txt]; split <;> omega⟩)
  have e : objAV (obM j) = if j ≤ 1024 then .tup [.str (txt (obM j)), .int .i64 0] else .tup [.str [], .int .i64 6] := by
    unfold objAV
    rw [hs]
    by_cases h : j ≤ 1024
    · rw [if_pos h, if_pos rfl, if_pos h]
    · rw [if_neg h, if_neg (by decide), if_neg h]
  rwa [e] at h

omit hE in
theorem repK_flat (z : List AV) : ∀ n, (List.replicate n z).flatten = repK n z
  | 0 => rfl
  | n + 1 => by rw [List.replicate_succ, List.flatten_cons, repK_flat z n, repK, appK_eq]; rfl

omit hE in
theorem pubOwn {H : List Blk} (jj : Nat) (hl : liveCells H 2 0 = some (47, repK jj raw0)) : Pub H 2 (.own 2 0 0 jj 6) (.imm 6 (obL (List.replicate jj ob0))) := by
  have e : obL (List.replicate jj ob0) = List.replicate jj (obC ob0) := by rw [obL_map, List.map_replicate]
  have e6 : (obC ob0).length = 6 := rfl
  have hp0 : PubL H 2 raw0 (obC ob0) := ⟨.same _ rfl, .same _ rfl, .same _ rfl, .same _ rfl, .nil _ _, .nil _ _, trivial⟩
  refine .own 2 0 0 jj 6 47 _ _ hl (Nat.le_refl 2) (by rw [e]; simp) ?_ ?_ ?_ ?_
  · intro x hx
    rw [e] at hx
    rw [(List.mem_replicate.mp hx).2]; rfl
  · intro x hx
    rw [e] at hx
    obtain ⟨y, hy, hx⟩ := List.mem_flatten.mp hx
    rw [(List.mem_replicate.mp hy).2] at hx
    exact obC_sc _ x hx
  · rw [e, repK_flat, repK_len, repK_len, e6]; simp
  · intro j x y hx hy
    rw [e, repK_flat] at hx
    have hj : j < jj * 6 := by
      have := getElem?_lt hx
      rw [repK_len, e6] at this; exact this
    rw [repK_get _ _ _ (by rw [e6]; exact hj), e6] at hx
    rw [Nat.zero_add, repK_get _ _ _ (by simpa using hj)] at hy
    exact hp0.spec.2 _ _ _ hy hx

omit hE in
theorem pubM {H : List Blk} (jj : Nat) (hl : liveCells H 2 0 = some (47, repK jj raw0)) : PubL H 2 [.agg [.int .i64 5, .int .i64 0, .int .i64 0, .str [], .own 2 0 0 jj 6, nilS]] [.agg (obC (obM jj))] := by
  refine ⟨?_, trivial⟩
  refine Pub.aggL (m := obC (obM jj)) ?_ (obC_sc _)
  show PubL H 2 _ [.int .i64 5, .int .i64 0, .int .i64 0, .str [], .imm 6 (obL (List.replicate jj ob0)), .imm 7 []]
  exact ⟨.same _ rfl, .same _ rfl, .same _ rfl, .same _ rfl, pubOwn jj hl, .nil _ _, trivial⟩

set_option maxHeartbeats 2000000 in
theorem writeLimits (hT : TabE E) (n m : Int) : PCalls E 14 [.int .i64 n, .int .i64 m] (· = .bool true) := by
  have hk : 0 ≤ bits .and .i64 n 127 ∧ bits .and .i64 n 127 ≤ 127 := and_low n 127 (by decide)
  have hj : 0 ≤ bits .and .i64 m 2047 ∧ bits .and .i64 m 2047 ≤ 2047 := and_low m 2047 (by decide)
  refine p14 hE fun l => ?_
  have hA := awake5 hE hT
  obtain ⟨kk, hkk⟩ : ∃ kk : Nat, bits .and .i64 n 127 = kk := ⟨(bits .and .i64 n 127).toNat, by have := hk.1; omega⟩
  obtain ⟨jj, hjj⟩ : ∃ jj : Nat, bits .and .i64 m 2047 = jj := ⟨(bits .and .i64 m 2047).toNat, by have := hj.1; omega⟩
  have hk2 : kk ≤ 127 := by have := hk.2; omega
  have hj2 : jj ≤ 2047 := by have := hj.2; omega
  have hO := objectK hE hT kk hk2
  have hM := objectM hE hT jj (by omega)
  have hkt := obN_txt kk
  have hjt := obM_txt jj
  have hjt2 : (jj = 0 ∧ (txt (obM jj)).length = 2) ∨ (jj ≠ 0 ∧ (txt (obM jj)).length = 5 * jj + 1) := by
    by_cases h : jj = 0
    · exact .inl ⟨h, by rw [hjt, if_pos h]⟩
    · exact .inr ⟨h, by rw [hjt, if_neg h]⟩
  clear hjt
  conv => whnf
  repeat' (first
    | (refine And.intro ?_ ?_; (focus (first | omega | decide | (unfold inI64; omega) | (simp only [List.length_append, List.length_cons, List.length_nil] <;> omega) | (refine ⟨?_, ?_⟩ <;> omega) | (refine ⟨?_, ?_, ?_, ?_, ?_, ?_⟩ <;> first | rfl | trivial | decide | omega | (simp [bytesAV_length] <;> omega)) | (simp <;> omega) | (unfold inI64; simp only [List.length_append, List.length_cons, List.length_nil] <;> omega))); conv => whnf)
    | (refine brD (fun _ => ?_) (fun _ => ?_) <;> first | (exfalso; omega) | (conv => whnf))
    | (refine brB (fun _ => ?_) (fun _ => ?_) <;> conv => whnf)
    | ((first | refine CallG.e (hA) ?_ | refine CallD.e (hA) ?_ | refine CallQ.e (hA) ?_); conv => whnf))
  rw [hkk]
  refine LoopG.s (fun x : Nat => x ≤ kk) 99 (fun x => [(0, .int .i64 n), (1, .int .i64 m), (4, .bool false), (5, .bool true), (6, .int .i64 kk), (7, .ptr 1 0 0), (8, .int .i64 x)]) (fun x => [⟨0, true, .frame l⟩, ⟨0, true, .cells 47 (rawN x)⟩]) (fun x => kk - x) 0 (by omega) rfl ⟨rfl, rfl, rfl, rfl, rfl, rfl, rfl⟩ rfl ?_
  rintro x hx
  obtain ⟨c0, c1, c2, c3, c4, c5, hr⟩ := rawN_6 x
  have hr1 : rawN (x + 1) = [.int .i64 5, .int .i64 0, .int .i64 0, .str [], .imm 6 [[c0, c1, c2, c3, c4, c5]], nilS] := by rw [← hr]; rfl
  by_cases hlt : x < kk
  · cases x with
    | zero =>
      conv => whnf
      repeat' (first
        | (refine And.intro ?_ ?_; (focus (first | omega | decide | (unfold inI64; omega) | (simp only [List.length_append, List.length_cons, List.length_nil] <;> omega) | (refine ⟨?_, ?_⟩ <;> omega) | (refine ⟨?_, ?_, ?_, ?_, ?_, ?_⟩ <;> first | rfl | trivial | decide | omega | (simp [bytesAV_length] <;> omega)) | (simp <;> omega) | (unfold inI64; simp only [List.length_append, List.length_cons, List.length_nil] <;> omega))); conv => whnf)
        | (refine brD (fun _ => ?_) (fun _ => ?_) <;> first | (exfalso; omega) | (conv => whnf))
        | (refine brB (fun _ => ?_) (fun _ => ?_) <;> conv => whnf))
      exact ⟨1, ⟨by omega, by omega⟩, Wk.slots rfl ⟨rfl, rfl, rfl, rfl, rfl, rfl, rfl⟩⟩
    | succ x =>
      conv => whnf
      repeat' (first
        | (refine And.intro ?_ ?_; (focus (first | omega | decide | (unfold inI64; omega) | (simp only [List.length_append, List.length_cons, List.length_nil] <;> omega) | (refine ⟨?_, ?_⟩ <;> omega) | (refine ⟨?_, ?_, ?_, ?_, ?_, ?_⟩ <;> first | rfl | trivial | decide | omega | (simp [bytesAV_length] <;> omega)) | (simp <;> omega) | (unfold inI64; simp only [List.length_append, List.length_cons, List.length_nil] <;> omega))); conv => whnf)
        | (refine brD (fun _ => ?_) (fun _ => ?_) <;> first | (exfalso; omega) | (conv => whnf))
        | (refine brB (fun _ => ?_) (fun _ => ?_) <;> conv => whnf))
      exact ⟨x + 1 + 1, ⟨by omega, by omega⟩, Wk.slots rfl ⟨rfl, rfl, rfl, rfl, rfl, rfl, rfl⟩⟩
  · obtain rfl : x = kk := by omega
    rw [hr] at hO
    have hhb : hbH 2 [⟨0, true, .frame l⟩, ⟨0, true, .cells 47 (rawN x)⟩] = true := by simp [hbH, hbB, rawN_hb]
    by_cases h1 : x ≤ 64
    · rw [if_pos h1] at hO
      by_cases h2 : jj ≤ 1024
      · rw [if_pos h2] at hM
        generalize txt (obN x) = T1 at *
        generalize txt (obM jj) = T2 at *
        conv => whnf
        repeat' (first
          | (rw [hr]; conv => whnf)
          | (rw [hjj]; conv => whnf)
          | (refine And.intro ?_ ?_; (focus (first | omega | decide | (unfold inI64; omega) | (simp only [List.length_append, List.length_cons, List.length_nil] <;> omega) | (refine ⟨?_, ?_⟩ <;> omega) | (refine ⟨?_, ?_, ?_, ?_, ?_, ?_⟩ <;> first | rfl | trivial | decide | omega | (simp [bytesAV_length] <;> omega)) | (simp <;> omega) | (unfold inI64; simp only [List.length_append, List.length_cons, List.length_nil] <;> omega))); conv => whnf)
          | (refine brD (fun _ => ?_) (fun _ => ?_) <;> first | (exfalso; omega) | (conv => whnf))
          | (refine brB (fun _ => ?_) (fun _ => ?_) <;> conv => whnf)
          | ((first | refine CallG.e (hO) ?_ | refine CallD.e (hO) ?_ | refine CallQ.e (hO) ?_); conv => whnf)
          | (refine CallG.cut (H' := [⟨0, true, .frame l⟩, ⟨0, true, .cells 47 (rawN x)⟩]) 2 [(4, .bool false), (5, .bool true), (6, .int .i64 x), (9, .str T1), (10, .int .i64 0), (11, .int .i64 jj)] [.agg (obC (obM jj))] 99 rfl rfl rfl ⟨⟨_, rfl, .same _ rfl⟩, ⟨_, rfl, .same _ rfl⟩, ⟨_, rfl, .same _ rfl⟩, ⟨_, rfl, .same _ rfl⟩, ⟨_, rfl, .same _ rfl⟩, ⟨_, rfl, .same _ rfl⟩, trivial⟩ (by rw [hr]; rfl) hhb (pubM jj rfl) (hM.a fun r hr' => ?_); subst hr'; conv => whnf))
        all_goals first | exact RetG.drop rfl rfl rfl ⟨rfl, rfl, rfl⟩ | exact RetG.drop rfl rfl rfl ⟨rfl, congrArg AV.bool (decide_eq_true (by omega)), rfl⟩ | (exfalso; rename_i h; apply h; rw [decide_eq_decide]; omega) | (exfalso; omega)
      · rw [if_neg h2] at hM
        generalize txt (obN x) = T1 at *
        generalize txt (obM jj) = T2 at *
        conv => whnf
        repeat' (first
          | (rw [hr]; conv => whnf)
          | (rw [hjj]; conv => whnf)
          | (refine And.intro ?_ ?_; (focus (first | omega | decide | (unfold inI64; omega) | (simp only [List.length_append, List.length_cons, List.length_nil] <;> omega) | (refine ⟨?_, ?_⟩ <;> omega) | (refine ⟨?_, ?_, ?_, ?_, ?_, ?_⟩ <;> first | rfl | trivial | decide | omega | (simp [bytesAV_length] <;> omega)) | (simp <;> omega) | (unfold inI64; simp only [List.length_append, List.length_cons, List.length_nil] <;> omega))); conv => whnf)
          | (refine brD (fun _ => ?_) (fun _ => ?_) <;> first | (exfalso; omega) | (conv => whnf))
          | (refine brB (fun _ => ?_) (fun _ => ?_) <;> conv => whnf)
          | ((first | refine CallG.e (hO) ?_ | refine CallD.e (hO) ?_ | refine CallQ.e (hO) ?_); conv => whnf)
          | (refine CallG.cut (H' := [⟨0, true, .frame l⟩, ⟨0, true, .cells 47 (rawN x)⟩]) 2 [(4, .bool false), (5, .bool true), (6, .int .i64 x), (9, .str T1), (10, .int .i64 0), (11, .int .i64 jj)] [.agg (obC (obM jj))] 99 rfl rfl rfl ⟨⟨_, rfl, .same _ rfl⟩, ⟨_, rfl, .same _ rfl⟩, ⟨_, rfl, .same _ rfl⟩, ⟨_, rfl, .same _ rfl⟩, ⟨_, rfl, .same _ rfl⟩, ⟨_, rfl, .same _ rfl⟩, trivial⟩ (by rw [hr]; rfl) hhb (pubM jj rfl) (hM.a fun r hr' => ?_); subst hr'; conv => whnf))
        all_goals first | exact RetG.drop rfl rfl rfl ⟨rfl, rfl, rfl⟩ | exact RetG.drop rfl rfl rfl ⟨rfl, congrArg AV.bool (decide_eq_true (by omega)), rfl⟩ | (exfalso; rename_i h; apply h; rw [decide_eq_decide]; omega) | (exfalso; omega)
    · rw [if_neg h1] at hO
      by_cases h2 : jj ≤ 1024
      · rw [if_pos h2] at hM
        generalize txt (obN x) = T1 at *
        generalize txt (obM jj) = T2 at *
        conv => whnf
        repeat' (first
          | (rw [hr]; conv => whnf)
          | (rw [hjj]; conv => whnf)
          | (refine And.intro ?_ ?_; (focus (first | omega | decide | (unfold inI64; omega) | (simp only [List.length_append, List.length_cons, List.length_nil] <;> omega) | (refine ⟨?_, ?_⟩ <;> omega) | (refine ⟨?_, ?_, ?_, ?_, ?_, ?_⟩ <;> first | rfl | trivial | decide | omega | (simp [bytesAV_length] <;> omega)) | (simp <;> omega) | (unfold inI64; simp only [List.length_append, List.length_cons, List.length_nil] <;> omega))); conv => whnf)
          | (refine brD (fun _ => ?_) (fun _ => ?_) <;> first | (exfalso; omega) | (conv => whnf))
          | (refine brB (fun _ => ?_) (fun _ => ?_) <;> conv => whnf)
          | ((first | refine CallG.e (hO) ?_ | refine CallD.e (hO) ?_ | refine CallQ.e (hO) ?_); conv => whnf)
          | (refine CallG.cut (H' := [⟨0, true, .frame l⟩, ⟨0, true, .cells 47 (rawN x)⟩]) 2 [(4, .bool false), (5, .bool true), (6, .int .i64 x), (9, .str []), (10, .int .i64 5), (11, .int .i64 jj)] [.agg (obC (obM jj))] 99 rfl rfl rfl ⟨⟨_, rfl, .same _ rfl⟩, ⟨_, rfl, .same _ rfl⟩, ⟨_, rfl, .same _ rfl⟩, ⟨_, rfl, .same _ rfl⟩, ⟨_, rfl, .same _ rfl⟩, ⟨_, rfl, .same _ rfl⟩, trivial⟩ (by rw [hr]; rfl) hhb (pubM jj rfl) (hM.a fun r hr' => ?_); subst hr'; conv => whnf))
        all_goals first | exact RetG.drop rfl rfl rfl ⟨rfl, rfl, rfl⟩ | exact RetG.drop rfl rfl rfl ⟨rfl, congrArg AV.bool (decide_eq_true (by omega)), rfl⟩ | (exfalso; rename_i h; apply h; rw [decide_eq_decide]; omega) | (exfalso; omega)
      · rw [if_neg h2] at hM
        generalize txt (obN x) = T1 at *
        generalize txt (obM jj) = T2 at *
        conv => whnf
        repeat' (first
          | (rw [hr]; conv => whnf)
          | (rw [hjj]; conv => whnf)
          | (refine And.intro ?_ ?_; (focus (first | omega | decide | (unfold inI64; omega) | (simp only [List.length_append, List.length_cons, List.length_nil] <;> omega) | (refine ⟨?_, ?_⟩ <;> omega) | (refine ⟨?_, ?_, ?_, ?_, ?_, ?_⟩ <;> first | rfl | trivial | decide | omega | (simp [bytesAV_length] <;> omega)) | (simp <;> omega) | (unfold inI64; simp only [List.length_append, List.length_cons, List.length_nil] <;> omega))); conv => whnf)
          | (refine brD (fun _ => ?_) (fun _ => ?_) <;> first | (exfalso; omega) | (conv => whnf))
          | (refine brB (fun _ => ?_) (fun _ => ?_) <;> conv => whnf)
          | ((first | refine CallG.e (hO) ?_ | refine CallD.e (hO) ?_ | refine CallQ.e (hO) ?_); conv => whnf)
          | (refine CallG.cut (H' := [⟨0, true, .frame l⟩, ⟨0, true, .cells 47 (rawN x)⟩]) 2 [(4, .bool false), (5, .bool true), (6, .int .i64 x), (9, .str []), (10, .int .i64 5), (11, .int .i64 jj)] [.agg (obC (obM jj))] 99 rfl rfl rfl ⟨⟨_, rfl, .same _ rfl⟩, ⟨_, rfl, .same _ rfl⟩, ⟨_, rfl, .same _ rfl⟩, ⟨_, rfl, .same _ rfl⟩, ⟨_, rfl, .same _ rfl⟩, ⟨_, rfl, .same _ rfl⟩, trivial⟩ (by rw [hr]; rfl) hhb (pubM jj rfl) (hM.a fun r hr' => ?_); subst hr'; conv => whnf))
        all_goals first | exact RetG.drop rfl rfl rfl ⟨rfl, rfl, rfl⟩ | exact RetG.drop rfl rfl rfl ⟨rfl, congrArg AV.bool (decide_eq_true (by omega)), rfl⟩ | (exfalso; rename_i h; apply h; rw [decide_eq_decide]; omega) | (exfalso; omega)
end Ink.D
